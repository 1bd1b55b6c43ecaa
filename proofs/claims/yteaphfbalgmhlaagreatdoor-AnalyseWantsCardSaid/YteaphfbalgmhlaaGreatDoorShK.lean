/-
  PART OF A CLAIM's PROOF (ShK): a shadow of the machine, or what is shown by it.
-/
import GoSem.Machine.Exec
import GoSem.Step
set_option linter.unusedSimpArgs false
set_option linter.unusedVariables false
/-
  A SHADOW of the machine: a deterministic interpreter over an abstract memory (numbers of its own for blocks), which the kernel runs. Definitions alone; what they are worth is proved behind (ShB ..).
-/
namespace Go.Sh

/-! a result: a value, or a number that says where it broke off -/
inductive R (α : Type) where
  | ok (a : α)
  | no (n : Nat)

def R.bnd {α β : Type} : R α → (α → R β) → R β
  | .ok a, f => f a
  | .no n, _ => .no n


/-! a trie by numbers -/
inductive T (α : Type) where
  | nil
  | node (v : Option α) (l r : T α)

noncomputable def T.get {α : Type} (t : T α) : Nat → Option α :=
  T.rec (motive := fun _ => Nat → Option α) (fun _ => none)
    (fun v _ _ gl gr k => Nat.rec (motive := fun _ => Option α) v (fun j _ => Bool.rec (motive := fun _ => Option α) (gr (j / 2)) (gl (j / 2)) (Nat.beq (j % 2) 0)) k) t

noncomputable def T.setF {α : Type} (f : Nat) : T α → Nat → Option α → T α :=
  Nat.rec (motive := fun _ => T α → Nat → Option α → T α) (fun t _ _ => t)
    (fun _ rec t k x => T.rec (motive := fun _ => T α)
       (Nat.rec (motive := fun _ => T α) (.node x .nil .nil) (fun j _ => Bool.rec (motive := fun _ => T α) (.node none .nil (rec .nil (j / 2) x)) (.node none (rec .nil (j / 2) x) .nil) (Nat.beq (j % 2) 0)) k)
       (fun v l r _ _ => Nat.rec (motive := fun _ => T α) (.node x l r) (fun j _ => Bool.rec (motive := fun _ => T α) (.node v l (rec r (j / 2) x)) (.node v (rec l (j / 2) x) r) (Nat.beq (j % 2) 0)) k) t) f

noncomputable def T.set {α : Type} (t : T α) (k : Nat) (x : Option α) : T α := T.setF (k + 1) t k x

noncomputable def T.ofListF {α : Type} : List α → Nat → T α → T α
  | [], _, t => t
  | x :: xs, i, t => T.ofListF xs (i + 1) (t.set i (some x))
noncomputable def T.ofList {α : Type} (l : List α) : T α := T.ofListF l 0 .nil

/-! memory -/
inductive AO where
  /-- cells; 'opn': slices over it may have more room than is told, elements of so many cells; 'ro': never written; 'fz': so many cells in front may be frozen -/
  | cells (c : List Value) (elem : TypeId) (opn : Option Nat) (ro : Bool) (fz : Nat)
  | map (es : List MapEntry) (clock : Nat)
  | strIter (s : ByteArray) (pos : Nat)
  | mapIter (m : Option Nat) (since : Nat) (seen : List Nat) (stepped : Nat)
  | loop (l : Loop)
  | deferred (ds : Option (List Deferred))

structure Mem where
  next : Nat
  objs : T AO

noncomputable def Mem.get : Mem → Nat → Option AO
  | ⟨_, t⟩, x => t.get x
noncomputable def Mem.put : Mem → Nat → AO → Mem
  | ⟨n, t⟩, x, o => ⟨n, t.set x (some o)⟩
noncomputable def Mem.del : Mem → Nat → Mem
  | ⟨n, t⟩, x => ⟨n, t.set x none⟩
/-- a new block: its number is 'next' -/
noncomputable def Mem.new : Mem → AO → Mem
  | ⟨n, t⟩, o => ⟨n + 1, t.set n (some o)⟩

/-! types, as the shadow wants them -/
structure FD where
  type : TypeId
  off : Nat
  size : Nat
  cmp : Bool

inductive TD where
  | bool | int (k : IntKind) | string
  | pointer (e : TypeId) | slice (e : TypeId) | array (n : Nat) (e : TypeId) | map (k e : TypeId) | struct (fs : List FD)
  | iface | func | other

structure TI where
  td : TD
  size : Nat
  bytes : Nat
  zero : Option Value
  comparable : Bool
  /-- no interface inside, and none of the model's stand-ins -/
  plain : Bool
  methods : List Method

structure Env where
  fn : Nat → Option Func
  ti : Nat → Option TI
  ext : Nat → List Value → R Value
  prim : Nat → Option (List Value → Mem → R (Value × Mem))
  /-- so many package-level variables -/
  ng : Nat

noncomputable def need {α : Type} (n : Nat) : Option α → R α
  | some a => .ok a
  | none => .no n

noncomputable def aggT : TD → Bool
  | .struct _ => true
  | .array _ _ => true
  | _ => false

noncomputable def takeN (n : Nat) : List Value → Option (List Value) :=
  Nat.rec (motive := fun _ => List Value → Option (List Value)) (fun _ => some [])
    (fun _ rec l => List.rec (motive := fun _ => Option (List Value)) none (fun v vs _ => Option.rec (motive := fun _ => Option (List Value)) none (fun r => some (v :: r)) (rec vs)) l) n

noncomputable def dropN (n : Nat) : List Value → List Value :=
  Nat.rec (motive := fun _ => List Value → List Value) (fun l => l)
    (fun _ rec l => List.rec (motive := fun _ => List Value) [] (fun _ vs _ => rec vs) l) n

noncomputable def loadO : Option AO → Nat → Nat → R (List Value)
  | some (.cells c _ _ _ _), off, n => need 1 (takeN n (dropN off c))
  | _, _, _ => .no 2
noncomputable def loadC : Mem → Addr → Nat → R (List Value)
  | m, ⟨x, off, none⟩, n => loadO (m.get x) off n
  | _, ⟨_, _, some _⟩, _ => .no 3

/-- does it lie in one cell, and is it known? -/
noncomputable def oneC : Value → Bool
  | .agg _ => false
  | .tuple _ => false
  | .chan _ => false
  | _ => true
noncomputable def ow : List Value → List Value → Option (List Value)
  | c, [] => some c
  | _ :: cs, v :: vs => bif oneC v then (ow cs vs).map (v :: ·) else none
  | [], _ :: _ => none
/-- overwrite from an index on -/
noncomputable def overw : List Value → Nat → List Value → Option (List Value)
  | c, 0, vs => ow c vs
  | c :: cs, i + 1, vs => (overw cs i vs).map (c :: ·)
  | [], _ + 1, _ => none

noncomputable def storeO : Option AO → Nat → List Value → R AO
  | some (.cells c e o false fz), off, vs => bif Nat.blt off fz then .no 4 else (need 5 (overw c off vs)).bnd fun c' => .ok (.cells c' e o false fz)
  | _, _, _ => .no 6
noncomputable def storeC : Mem → Addr → List Value → R Mem
  | m, ⟨x, off, none⟩, vs => (storeO (m.get x) off vs).bnd fun o => .ok (m.put x o)
  | _, ⟨_, _, some _⟩, _ => .no 7

noncomputable def addrOf : Value → R Addr
  | .pointer (some a) => .ok a
  | _ => .no 8
noncomputable def natVal : Value → R Nat
  | .int _ (.ofNat k) => .ok k
  | _ => .no 9
noncomputable def asOne : List Value → R Value
  | [v] => .ok v
  | _ => .no 10
noncomputable def aggL (l : List Value) : Value := .agg ⟨l⟩
noncomputable def tupL (l : List Value) : Value := .tuple ⟨l⟩
noncomputable def mkVal : Bool → List Value → R Value
  | true, l => .ok (aggL l)
  | false, l => asOne l

noncomputable def Env.tiR (E : Env) (t : TypeId) : R TI := need 11 (E.ti t)
noncomputable def Env.tdR (E : Env) (t : TypeId) : R TD := (E.tiR t).bnd fun i => .ok i.td
noncomputable def Env.sizeR (E : Env) (t : TypeId) : R Nat := (E.tiR t).bnd fun i => .ok i.size
noncomputable def Env.zeroR (E : Env) (t : TypeId) : R Value := (E.tiR t).bnd fun i => need 12 i.zero

noncomputable def loadV (E : Env) (m : Mem) (t : TypeId) (a : Addr) : R Value :=
  (E.tiR t).bnd fun i => bif aggT i.td then (loadC m a i.size).bnd (mkVal true) else (loadC m a 1).bnd (mkVal false)

/-- the cells of a value; '.chan none' stands for a value of which nothing is known -/
noncomputable def cellsR : Value → R (List Value)
  | .chan _ => .no 160
  | .agg ⟨l⟩ => .ok l
  | v => .ok [v]

noncomputable def storeV (E : Env) (m : Mem) (t : TypeId) (a : Addr) (v : Value) : R Mem :=
  (E.sizeR t).bnd fun n => (cellsR v).bnd fun l => bif Nat.beq l.length n then storeC m a l else .no 13

noncomputable def partOf (E : Env) (t : TypeId) (cs : List Value) (off : Nat) : R Value :=
  (E.tiR t).bnd fun i => bif aggT i.td then (need 14 (takeN i.size (dropN off cs))).bnd (mkVal true) else (need 15 (takeN 1 (dropN off cs))).bnd (mkVal false)

/-! strings -/
noncomputable def bstr (l : List UInt8) : Value := .string ⟨⟨l⟩⟩
noncomputable def lenB : ByteArray → Nat
  | ⟨⟨l⟩⟩ => l.length
noncomputable def subB : ByteArray → Nat → Nat → ByteArray
  | ⟨⟨s⟩⟩, l, h => ⟨⟨(s.drop l).take (h - l)⟩⟩
noncomputable def eqL : List UInt8 → List UInt8 → Bool
  | [], [] => true
  | a :: x, b :: y => bif Nat.beq a.toNat b.toNat then eqL x y else false
  | _, _ => false
noncomputable def ltL : List UInt8 → List UInt8 → Bool
  | _, [] => false
  | [], _ :: _ => true
  | a :: x, b :: y => bif Nat.blt a.toNat b.toNat then true else bif Nat.beq a.toNat b.toNat then ltL x y else false

noncomputable def strOp : BinOp → ByteArray → ByteArray → R Value
  | .add, ⟨⟨x⟩⟩, ⟨⟨y⟩⟩ => bif Nat.ble (x.length + y.length) 1000000000 then .ok (bstr (x ++ y)) else .no 16
  | .eql, ⟨⟨x⟩⟩, ⟨⟨y⟩⟩ => .ok (.bool (eqL x y))
  | .neq, ⟨⟨x⟩⟩, ⟨⟨y⟩⟩ => .ok (.bool (!eqL x y))
  | .lss, ⟨⟨x⟩⟩, ⟨⟨y⟩⟩ => .ok (.bool (ltL x y))
  | .leq, ⟨⟨x⟩⟩, ⟨⟨y⟩⟩ => .ok (.bool (ltL x y || eqL x y))
  | .gtr, ⟨⟨x⟩⟩, ⟨⟨y⟩⟩ => .ok (.bool (!(ltL x y || eqL x y)))
  | .geq, ⟨⟨x⟩⟩, ⟨⟨y⟩⟩ => .ok (.bool (!ltL x y))
  | _, _, _ => .no 17

noncomputable def intOp : BinOp → IntKind → Int → Int → R Value
  | .add, k, a, b => .ok (.int k (k.wrap (a + b)))
  | .sub, k, a, b => .ok (.int k (k.wrap (a - b)))
  | .mul, k, a, b => .ok (.int k (k.wrap (a * b)))
  | .quo, k, a, b => if b = 0 then .no 18 else .ok (.int k (k.wrap (a.tdiv b)))
  | .rem, k, a, b => if b = 0 then .no 19 else .ok (.int k (a.tmod b))
  | .and, k, a, b => .ok (.int k (k.wrap (BitVec.ofInt k.bits a &&& BitVec.ofInt k.bits b).toNat))
  | .or, k, a, b => .ok (.int k (k.wrap (BitVec.ofInt k.bits a ||| BitVec.ofInt k.bits b).toNat))
  | .xor, k, a, b => .ok (.int k (k.wrap (BitVec.ofInt k.bits a ^^^ BitVec.ofInt k.bits b).toNat))
  | .andNot, k, a, b => .ok (.int k (k.wrap (BitVec.ofInt k.bits a &&& ~~~BitVec.ofInt k.bits b).toNat))
  | .eql, _, a, b => .ok (.bool (a == b))
  | .neq, _, a, b => .ok (.bool (a != b))
  | .lss, _, a, b => .ok (.bool (a < b))
  | .leq, _, a, b => .ok (.bool (a ≤ b))
  | .gtr, _, a, b => .ok (.bool (a > b))
  | .geq, _, a, b => .ok (.bool (a ≥ b))
  | _, _, _, _ => .no 20

noncomputable def shiftN (k : IntKind) (b : Int) : Nat := min b.toNat k.bits
noncomputable def shiftOp : BinOp → IntKind → Int → Int → R Value
  | .shl, k, a, b => if b < 0 then .no 21 else .ok (.int k (k.wrap (a * 2 ^ shiftN k b)))
  | .shr, k, a, b => if b < 0 then .no 21 else .ok (.int k (a.fdiv (2 ^ shiftN k b)))
  | _, _, _, _ => .no 22

/-! '==' -/
noncomputable def eqFs (E : Env) (f : TypeId → Value → Value → R Bool) : List FD → List Value → List Value → R Bool
  | [], _, _ => .ok true
  | ⟨_, _, _, false⟩ :: fs, xs, ys => eqFs E f fs xs ys
  | ⟨t, off, _, true⟩ :: fs, xs, ys => (partOf E t xs off).bnd fun a => (partOf E t ys off).bnd fun b => (f t a b).bnd fun r => bif r then eqFs E f fs xs ys else .ok false

noncomputable def eqAs (E : Env) (f : TypeId → Value → Value → R Bool) (e : TypeId) (k : Nat) (xs ys : List Value) : Nat → Nat → R Bool
  | 0, _ => .ok true
  | n + 1, i => (partOf E e xs (i * k)).bnd fun a => (partOf E e ys (i * k)).bnd fun b => (f e a b).bnd fun r => bif r then eqAs E f e k xs ys n (i + 1) else .ok false

noncomputable def eqD (E : Env) (f : TypeId → Value → Value → R Bool) (plain : Bool) : TD → Value → Value → R Bool
  | .bool, .bool a, .bool b => .ok (a == b)
  | .int _, .int k a, .int k' b => if k = k' then .ok (a == b) else .no 24
  | .string, .string ⟨⟨a⟩⟩, .string ⟨⟨b⟩⟩ => .ok (eqL a b)
  | .pointer _, .pointer none, .pointer none => .ok true
  | .pointer _, .pointer (some _), .pointer none => .ok false
  | .pointer _, .pointer none, .pointer (some _) => .ok false
  | .iface, .nilIface, .nilIface => .ok true
  | .iface, .nilIface, .iface _ _ => .ok false
  | .iface, .iface _ _, .nilIface => .ok false
  | .iface, .iface tx vx, .iface ty vy => bif Nat.beq tx ty then (E.tiR tx).bnd fun j => bif j.comparable then f tx vx vy else .no 25 else .ok false
  | .slice _, .slice none _ _, .slice none _ _ => .ok true
  | .slice _, .slice none _ _, .slice (some _) _ _ => .ok false
  | .slice _, .slice (some _) _ _, .slice none _ _ => .ok false
  | .map _ _, .map none, .map none => .ok true
  | .map _ _, .map (some _), .map none => .ok false
  | .map _ _, .map none, .map (some _) => .ok false
  | .func, .nilFunc, .nilFunc => .ok true
  | .func, .nilFunc, .func _ _ _ => .ok false
  | .func, .func _ _ _, .nilFunc => .ok false
  | .struct fs, .agg ⟨xs⟩, .agg ⟨ys⟩ => bif plain then eqFs E f fs xs ys else .no 27
  | .array n e, .agg ⟨xs⟩, .agg ⟨ys⟩ => bif plain then (E.sizeR e).bnd fun k => eqAs E f e k xs ys n 0 else .no 28
  | _, _, _ => .no 26

noncomputable def eqV (E : Env) : Nat → TypeId → Value → Value → R Bool
  | 0, _, _, _ => .no 23
  | d + 1, t, x, y => (E.tiR t).bnd fun i => eqD E (eqV E d) i.plain i.td x y

noncomputable def notR : Bool → R Bool → R Value
  | neg, r => r.bnd fun b => .ok (.bool (bif neg then !b else b))

/-- '==' and '!=' of what is neither two numbers nor two strings -/
noncomputable def eqOp (E : Env) (neg : Bool) (t : TypeId) (lit : Bool) : Value → Value → R Value
  | .nilIface, .nilIface => bif lit then notR neg (eqV E 30 t .nilIface .nilIface) else .no 29
  | x, y => notR neg (eqV E 30 t x y)

noncomputable def binOpI : BinOp → IntKind → Int → IntKind → Int → R Value
  | .shl, k, a, _, b => shiftOp .shl k a b
  | .shr, k, a, _, b => shiftOp .shr k a b
  | op, k, a, k', b => if k = k' then intOp op k a b else .no 30
noncomputable def binOpO (E : Env) (t : TypeId) (lit : Bool) : BinOp → Value → Value → R Value
  | .eql, x, y => eqOp E false t lit x y
  | .neq, x, y => eqOp E true t lit x y
  | _, _, _ => .no 31
noncomputable def binOpV (E : Env) (t : TypeId) (lit : Bool) (op : BinOp) : Value → Value → R Value
  | .int k a, .int k' b => binOpI op k a k' b
  | .string a, .string b => strOp op a b
  | x, y => binOpO E t lit op x y

noncomputable def unOpV : UnOp → Value → R Value
  | .neg, .int k n => .ok (.int k (k.wrap (0 - n)))
  | .xor, .int k n => intOp .xor k (if k.signed then -1 else k.max) n
  | .not, .bool b => .ok (.bool !b)
  | _, _ => .no 32

/-! slices -/
noncomputable def addA : Addr → Nat → Addr
  | a, 0 => a
  | ⟨b, o, _⟩, n + 1 => ⟨b, o + (n + 1), none⟩

noncomputable def sliceB : Option Value → Nat → Nat → R Nat
  | none, dflt, _ => .ok dflt
  | some v, _, y => (natVal v).bnd fun n => bif Nat.ble n y then .ok n else .no 33

/-- where a part of a slice begins: where nothing is left behind it, it stays -/
noncomputable def stays (m l : Nat) (a : Addr) (n : Nat) : Addr := bif Nat.beq m l then a else addA a n

noncomputable def opnO : Option AO → R (Option Nat)
  | some (.cells _ _ o _ _) => .ok o
  | _ => .no 34

noncomputable def sameK : Option Nat → Nat → Bool
  | none, _ => true
  | some k', k => Nat.beq k' k
noncomputable def isNone : Option Nat → Bool
  | none => true
  | some _ => false
noncomputable def sliceS (E : Env) (m : Mem) (e : TypeId) : Option Addr → Nat → Nat → Option Value → Option Value → Option Value → R Value
  | none, len, cap, lo, hi, none => (sliceB hi len cap).bnd fun h => (sliceB lo 0 h).bnd fun l => (E.sizeR e).bnd fun _ => .ok (.slice none (h - l) (cap - l))
  | none, len, cap, lo, some u, some v => (sliceB (some v) cap cap).bnd fun mm => (sliceB (some u) len mm).bnd fun h => (sliceB lo 0 h).bnd fun l => (E.sizeR e).bnd fun _ => .ok (.slice none (h - l) (mm - l))
  | some a, len, cap, lo, hi, none => (sliceB hi len cap).bnd fun h => (sliceB lo 0 h).bnd fun l => (E.sizeR e).bnd fun k => (opnO (m.get a.block)).bnd fun o =>
      bif sameK o k then .ok (.slice (some (stays cap l a (l * k))) (h - l) (cap - l)) else .no 170
  | some a, len, cap, lo, some u, some v => (sliceB (some v) cap cap).bnd fun mm => (sliceB (some u) len mm).bnd fun h => (sliceB lo 0 h).bnd fun l => (E.sizeR e).bnd fun k =>
      bif Nat.beq mm 0 then .ok (.slice (some ⟨a.block, a.off, some 0⟩) 0 0) else (opnO (m.get a.block)).bnd fun o =>
      bif isNone o then .ok (.slice (some (stays mm l a (l * k))) (h - l) (mm - l)) else .no 35
  | _, _, _, _, none, some _ => .no 35

noncomputable def sliceD (E : Env) (m : Mem) : TD → Value → Option Value → Option Value → Option Value → R Value
  | .string, .string s, lo, hi, none => (sliceB hi (lenB s) (lenB s)).bnd fun h => (sliceB lo 0 h).bnd fun l => .ok (.string (subB s l h))
  | .slice e, .slice a len cap, lo, hi, mx => sliceS E m e a len cap lo hi mx
  | .array n e, .pointer (some a), lo, hi, none => (sliceB hi n n).bnd fun h => (sliceB lo 0 h).bnd fun l => (E.sizeR e).bnd fun k => (opnO (m.get a.block)).bnd fun o =>
      bif isNone o then .ok (.slice (some (stays n l a (l * k))) (h - l) (n - l)) else .no 36
  | _, _, _, _, _ => .no 37

noncomputable def nthF : List FD → Nat → Option FD
  | [], _ => none
  | f :: _, 0 => some f
  | _ :: fs, i + 1 => nthF fs i
noncomputable def fieldR : TD → Nat → R FD
  | .struct fs, i => need 38 (nthF fs i)
  | _, _ => .no 39

noncomputable def indexAddrD (E : Env) : TD → Value → Nat → R Value
  | .array n e, .pointer (some a), i => bif Nat.blt i n then (E.sizeR e).bnd fun k => .ok (.pointer (some (addA a (i * k)))) else .no 40
  | .slice e, .slice (some a) n _, i => bif Nat.blt i n then (E.sizeR e).bnd fun k => .ok (.pointer (some (addA a (i * k)))) else .no 41
  | _, _, _ => .no 42

noncomputable def byteAt : List UInt8 → Nat → Option UInt8
  | [], _ => none
  | b :: _, 0 => some b
  | _ :: r, i + 1 => byteAt r i

noncomputable def indexD (E : Env) : TD → Value → Nat → R Value
  | .array n e, .agg ⟨cs⟩, i => bif Nat.blt i n then (E.sizeR e).bnd fun k => partOf E e cs (i * k) else .no 43
  | .string, .string ⟨⟨s⟩⟩, i => (need 44 (byteAt s i)).bnd fun b => .ok (.int .u8 (Int.ofNat b.toNat))
  | _, _, _ => .no 45

/-- the same value, by sight -/
noncomputable def vEqs (f : Value → Value → Bool) : List Value → List Value → Bool
  | [], [] => true
  | a :: x, b :: y => f a b && vEqs f x y
  | _, _ => false
noncomputable def aEq : Option Addr → Option Addr → Bool
  | none, none => true
  | some ⟨b, o, none⟩, some ⟨b', o', none⟩ => Nat.beq b b' && Nat.beq o o'
  | _, _ => false
noncomputable def nEq : Option Nat → Option Nat → Bool
  | none, none => true
  | some a, some b => Nat.beq a b
  | _, _ => false
noncomputable def fEq : Fn → Fn → Bool
  | .func a, .func b => Nat.beq a b
  | _, _ => false
noncomputable def vEqD (f : Value → Value → Bool) : Value → Value → Bool
  | .bool a, .bool b => a == b
  | .int k a, .int k' b => k == k' && a == b
  | .string ⟨⟨a⟩⟩, .string ⟨⟨b⟩⟩ => eqL a b
  | .pointer a, .pointer b => aEq a b
  | .slice a n c, .slice b n' c' => aEq a b && Nat.beq n n' && Nat.beq c c'
  | .map a, .map b => nEq a b
  | .func a ⟨x⟩ ⟨y⟩, .func b ⟨x'⟩ ⟨y'⟩ => fEq a b && vEqs f x x' && vEqs f y y'
  | .nilFunc, .nilFunc => true
  | .iface t v, .iface t' v' => Nat.beq t t' && f v v'
  | .nilIface, .nilIface => true
  | .agg ⟨x⟩, .agg ⟨y⟩ => vEqs f x y
  | .tuple ⟨x⟩, .tuple ⟨y⟩ => vEqs f x y
  | _, _ => false
noncomputable def vEq : Nat → Value → Value → Bool
  | 0, _, _ => false
  | d + 1, a, b => vEqD (vEq d) a b

/-! maps: their keys numbers, strings, bools, structs and arrays of these -/
noncomputable def plainVs (f : Value → Bool) : List Value → Bool
  | [] => true
  | v :: r => f v && plainVs f r
noncomputable def plainD (f : Value → Bool) : Value → Bool
  | .bool _ => true
  | .int _ _ => true
  | .string _ => true
  | .agg ⟨l⟩ => plainVs f l
  | _ => false
noncomputable def plainV : Nat → Value → Bool
  | 0, _ => false
  | d + 1, v => plainD (plainV d) v
noncomputable def keyFs (E : Env) (f : TypeId → Value → R Unit) : List FD → List Value → R Unit
  | [], _ => .ok ()
  | ⟨_, _, _, false⟩ :: fs, xs => keyFs E f fs xs
  | ⟨t, off, _, true⟩ :: fs, xs => (partOf E t xs off).bnd fun a => (f t a).bnd fun _ => keyFs E f fs xs
noncomputable def keyAs (E : Env) (f : TypeId → Value → R Unit) (e : TypeId) (k : Nat) (xs : List Value) : Nat → Nat → R Unit
  | 0, _ => .ok ()
  | n + 1, i => (partOf E e xs (i * k)).bnd fun a => (f e a).bnd fun _ => keyAs E f e k xs n (i + 1)
noncomputable def keyD (E : Env) (f : TypeId → Value → R Unit) : TD → Value → R Unit
  | .bool, _ => .ok ()
  | .int _, _ => .ok ()
  | .string, _ => .ok ()
  | .struct fs, .agg ⟨xs⟩ => keyFs E f fs xs
  | .array n e, .agg ⟨xs⟩ => (E.sizeR e).bnd fun k => keyAs E f e k xs n 0
  | _, _ => .no 46
noncomputable def keyV (E : Env) : Nat → TypeId → Value → R Unit
  | 0, _, _ => .no 47
  | d + 1, t, v => (E.tdR t).bnd fun td => keyD E (keyV E d) td v

noncomputable def findK (E : Env) (t : TypeId) (k : Value) : List MapEntry → Nat → R (Option (Nat × MapEntry))
  | [], _ => .ok none
  | e :: es, i => (eqV E 30 t k e.key).bnd fun b => bif b then .ok (some (i, e)) else findK E t k es (i + 1)

noncomputable def mapO : Option AO → R (List MapEntry × Nat)
  | some (.map es c) => .ok (es, c)
  | _ => .no 47
noncomputable def entriesOf : Mem → Value → R (List MapEntry)
  | _, .map none => .ok []
  | m, .map (some r) => (mapO (m.get r)).bnd fun p => .ok p.1
  | _, _ => .no 48

/-- may it be a key of a map's? -/
noncomputable def isOkKey (E : Env) (t : TypeId) (v : Value) : R Unit := bif plainV 5 v then keyV E 10 t v else .no 49

noncomputable def gives (commaOk : Bool) (v : Value) (b : Bool) : Value := bif commaOk then tupL [v, .bool b] else v
noncomputable def found (E : Env) (et : TypeId) (commaOk : Bool) : Option (Nat × MapEntry) → R Value
  | some (_, e) => .ok (gives commaOk e.val true)
  | none => (E.zeroR et).bnd fun z => .ok (gives commaOk z false)
noncomputable def lookupD (E : Env) (m : Mem) : TD → Value → Value → Bool → R Value
  | .map kt et, x, ix, ok => (isOkKey E kt ix).bnd fun _ => (entriesOf m x).bnd fun es => (findK E kt ix es 0).bnd fun r => found E et ok r
  | _, _, _, _ => .no 50

noncomputable def setNth (f : MapEntry → MapEntry) : List MapEntry → Nat → List MapEntry
  | [], _ => []
  | e :: es, 0 => f e :: es
  | e :: es, i + 1 => e :: setNth f es i

noncomputable def keyStays (k : Value) : Option (Nat × MapEntry) → Bool
  | some (_, e) => vEq 12 e.key k
  | none => true
noncomputable def updated (m : Mem) (r : Nat) (es : List MapEntry) (c : Nat) (k v : Value) : Option (Nat × MapEntry) → Mem
  | some (i, _) => m.put r (.map (setNth (fun e => ⟨k, v, e.born⟩) es i) c)
  | none => m.put r (.map (es ++ [⟨k, v, c⟩]) (c + 1))
noncomputable def mapUpdateD (E : Env) (m : Mem) : TD → Value → Value → Value → R Mem
  | .map kt _, .map (some r), k, v => (isOkKey E kt k).bnd fun _ => (mapO (m.get r)).bnd fun p => (findK E kt k p.1 0).bnd fun q => bif keyStays k q then .ok (updated m r p.1 p.2 k v q) else .no 48
  | _, _, _, _ => .no 51

noncomputable def entered (E : Env) (m : Mem) (et : TypeId) (r : Nat) (es : List MapEntry) (c : Nat) (k : Value) : Option (Nat × MapEntry) → R (Value × Mem)
  | some (i, e) => .ok (tupL [e.val, .int .i64 (Int.ofNat e.born)], m.put r (.map (setNth (fun e => ⟨k, e.val, e.born⟩) es i) c))
  | none => (E.zeroR et).bnd fun z => .ok (tupL [z, .int .i64 (Int.ofNat c)], m.put r (.map (es ++ [⟨k, z, c⟩]) (c + 1)))
noncomputable def mapEntryD (E : Env) (m : Mem) : TD → Value → Value → R (Value × Mem)
  | .map kt et, .map (some r), k => (isOkKey E kt k).bnd fun _ => (mapO (m.get r)).bnd fun p => (findK E kt k p.1 0).bnd fun q => bif keyStays k q then entered E m et r p.1 p.2 k q else .no 48
  | _, _, _ => .no 52

noncomputable def bornAt : List MapEntry → Nat → Nat → Option Nat
  | [], _, _ => none
  | e :: es, b, i => bif Nat.beq e.born b then some i else bornAt es b (i + 1)
noncomputable def entryStoreV (m : Mem) : Value → Value → Value → R Mem
  | .map (some r), s, v => (mapO (m.get r)).bnd fun p => (natVal s).bnd fun b => (need 53 (bornAt p.1 b 0)).bnd fun i => .ok (m.put r (.map (setNth (fun e => ⟨e.key, v, e.born⟩) p.1 i) p.2))
  | _, _, _ => .no 54

/-- a pointer to a new block, and memory with it -/
noncomputable def newP (m : Mem) (o : AO) : Value × Mem := (.pointer (some ⟨m.next, 0, none⟩), m.new o)

noncomputable def rangeD (m : Mem) : TD → Value → R (Value × Mem)
  | .string, .string s => .ok (newP m (.strIter s 0))
  | .map _ _, .map none => .ok (newP m (.mapIter none 0 [] 0))
  | .map _ _, .map (some q) => (mapO (m.get q)).bnd fun p => .ok (newP m (.mapIter (some q) p.2 [] p.2))
  | _, _ => .no 55

noncomputable def notSeen (seen : List Nat) : List MapEntry → List MapEntry
  | [] => []
  | e :: es => bif seen.any (Nat.beq e.born) then notSeen seen es else e :: notSeen seen es
noncomputable def nextMap (m : Mem) (r q since clock : Nat) (seen : List Nat) : List MapEntry → R (Value × Mem)
  | [] => .ok (tupL [.bool false], m)
  | [e] => bif Nat.blt e.born since then .ok (tupL [.bool true, e.key, e.val], m.put r (.mapIter (some q) since (seen ++ [e.born]) clock)) else .no 56
  | _ => .no 57
noncomputable def nextO (m : Mem) (r : Nat) : Option AO → Bool → R (Value × Mem)
  | some (.strIter s pos), true => bif Nat.blt pos (lenB s) then
      .ok (tupL [.bool true, .int .i64 (Int.ofNat pos), .int .i32 (Int.ofNat (Utf8.decode s pos).1)], m.put r (.strIter s (pos + (Utf8.decode s pos).2)))
    else .ok (tupL [.bool false], m)
  | some (.mapIter none _ _ _), false => .ok (tupL [.bool false], m)
  | some (.mapIter (some q) since seen last), false => (mapO (m.get q)).bnd fun p =>
    bif !seen.isEmpty && !p.1.isEmpty && p.1.all (fun e => Nat.ble last e.born) then .no 58 else nextMap m r q since p.2 seen (notSeen seen p.1)
  | _, _ => .no 59
noncomputable def nextV (m : Mem) : Value → Bool → R (Value × Mem)
  | .pointer (some ⟨r, 0, none⟩), b => nextO m r (m.get r) b
  | _, _ => .no 60

noncomputable def holds (commaOk : Bool) (v : Value) : R Value := .ok (gives commaOk v true)
noncomputable def fails (E : Env) (t : TypeId) (commaOk : Bool) : R Value := bif commaOk then (E.zeroR t).bnd fun z => .ok (gives true z false) else .no 61
noncomputable def typeAssertD (E : Env) (t : TypeId) (ok : Bool) : TD → Value → R Value
  | .iface, _ => .no 62
  | _, .nilIface => fails E t ok
  | _, .iface u v => bif Nat.beq u t then holds ok v else fails E t ok
  | _, _ => .no 63

/-! append, copy -/
noncomputable def byteVals : List UInt8 → List Value
  | [] => []
  | b :: r => .int .u8 (Int.ofNat b.toNat) :: byteVals r
noncomputable def firstC (m : Mem) (k n : Nat) : Value → R (List Value)
  | .slice (some a) _ _ => loadC m a (n * k)
  | .slice none _ _ => .ok []
  | .string ⟨⟨s⟩⟩ => .ok (byteVals (s.take n))
  | _ => .no 64
noncomputable def lenV : Value → R Nat
  | .slice _ n _ => .ok n
  | .string s => .ok (lenB s)
  | _ => .no 65

noncomputable def isInt : TD → Bool
  | .int _ => true
  | _ => false
noncomputable def isMake (E : Env) : List TypeId → R Bool
  | [] => .ok false
  | t :: _ => (E.tdR t).bnd fun td => .ok (isInt td)

noncomputable def storeSome (m : Mem) (a : Addr) : List Value → R Mem
  | [] => .ok m
  | v :: vs => storeC m a (v :: vs)

noncomputable def newS (m : Mem) (c : List Value) (e : TypeId) (o : Option Nat) (fz len cap : Nat) : Value × Mem := (.slice (some ⟨m.next, 0, none⟩) len cap, m.new (.cells c e o false fz))

/-- may the cells behind be written where they lie? -/
noncomputable def freeB (fz off len cap k : Nat) : Bool := Nat.beq fz 0 || (!Nat.beq cap 0 && Nat.ble fz (off + len * k))
/-- behind its room: a new block; what grew already is used up by it -/
noncomputable def allOne : List Value → Bool
  | [] => true
  | v :: vs => oneC v && allOne vs
noncomputable def growO (m : Mem) (e k : Nat) (a : Addr) (len cap : Nat) (old new : List Value) (need : Nat) : Option AO → R (Value × Mem)
  | some (.cells _ _ none _ _) => .ok (newS m (old ++ new) e (some k) 0 need need)
  | some (.cells _ e' (some k') false fz) => bif Nat.beq e' e && Nat.beq k' k && freeB fz a.off len cap k && allOne new then .ok (newS (m.del a.block) (old ++ new) e (some k) (fz - a.off) need need) else .no 66
  | _ => .no 67
noncomputable def firstN (m : Mem) (k n : Nat) (x : Value) : R (List Value) := bif Nat.beq n 0 then .ok [] else (firstC m k n x).bnd fun l => bif Nat.beq l.length (n * k) then .ok l else .no 172
noncomputable def oldC (m : Mem) (a : Addr) (len k : Nat) : R (List Value) := bif Nat.beq len 0 then .ok [] else loadC m a (len * k)
noncomputable def appendS (m : Mem) (e k n : Nat) (x : Value) : Option Addr → Nat → Nat → R (Value × Mem)
  | some ⟨b, o, some s⟩, len, cap => bif Nat.ble (len + n) cap then .ok (.slice (some ⟨b, o, some s⟩) (len + n) cap, m)
    else (firstN m k n x).bnd fun new => .ok (newS m new e (some k) 0 (len + n) (len + n))
  | none, len, cap => bif Nat.ble (len + n) cap then (firstN m k n x).bnd fun _ => .ok (.slice none (len + n) cap, m)
    else (firstN m k n x).bnd fun new => bif Nat.beq len 0 then .ok (newS m new e (some k) 0 (len + n) (len + n)) else .no 173
  | some a, len, cap => bif Nat.ble (len + n) cap then (firstN m k n x).bnd fun new => (storeSome m (addA a (len * k)) new).bnd fun m => .ok (.slice (some a) (len + n) cap, m)
    else (oldC m a len k).bnd fun old => (firstN m k n x).bnd fun new => growO m e k a len cap old new (len + n) (m.get a.block)
noncomputable def zeroFits (i : TI) : Option Value → R Bool
  | some z => (cellsR z).bnd fun l => .ok (Nat.beq l.length i.size)
  | none => .ok false
noncomputable def appendD (E : Env) (m : Mem) (st : TypeId) (ts : List TypeId) (x : Value) : TD → Value → R (Value × Mem)
  | .slice e, .slice a len cap => (isMake E ts).bnd fun z => bif z then .no 68 else (E.tiR e).bnd fun i => (lenV x).bnd fun n => (zeroFits i i.zero).bnd fun zf => bif zf && Nat.ble (len + n) 1000000 && Nat.ble i.bytes 10000000 then appendS m e i.size n x a len cap else .no 69
  | _, _ => .no 70
noncomputable def appendV (E : Env) (m : Mem) : List TypeId → List Value → R (Value × Mem)
  | st :: ts, [s, x] => (E.tdR st).bnd fun td => appendD E m st ts x td s
  | _, _ => .no 71

noncomputable def copyS (m : Mem) (k n : Nat) (src : Value) : Option Addr → R Mem
  | none => (firstN m k n src).bnd fun _ => .ok m
  | some a => (firstN m k n src).bnd fun cs => storeSome m a cs
noncomputable def copyD (E : Env) (m : Mem) (src : Value) : TD → Value → R (Value × Mem)
  | .slice e, .slice a len _ => (E.sizeR e).bnd fun k => (lenV src).bnd fun n => (copyS m k (min n len) src a).bnd fun m => .ok (.int .i64 (Int.ofNat (min n len)), m)
  | _, _ => .no 72
noncomputable def copyV (E : Env) (m : Mem) : List TypeId → List Value → R (Value × Mem)
  | t :: _, [d, s] => (E.tdR t).bnd fun td => copyD E m s td d
  | _, _ => .no 73

noncomputable def lenD (m : Mem) : TD → Value → R Value
  | .string, .string s => .ok (.int .i64 (Int.ofNat (lenB s)))
  | .array n _, _ => .ok (.int .i64 (Int.ofNat n))
  | .slice _, .slice _ n _ => .ok (.int .i64 (Int.ofNat n))
  | .map _ _, x => (entriesOf m x).bnd fun es => .ok (.int .i64 (Int.ofNat es.length))
  | _, _ => .no 74
noncomputable def lenBV (E : Env) (m : Mem) : List TypeId → List Value → R Value
  | t :: _, [x] => (E.tdR t).bnd fun td => lenD m td x
  | _, _ => .no 75

noncomputable def capOpn : Option Nat → Nat → R Value
  | none, c => .ok (.int .i64 (Int.ofNat c))
  | some _, _ => .no 76
noncomputable def capD (m : Mem) : TD → Value → R Value
  | .slice _, .slice none _ c => .ok (.int .i64 (Int.ofNat c))
  | .slice _, .slice (some a) _ c => (opnO (m.get a.block)).bnd fun o => capOpn o c
  | _, _ => .no 77
noncomputable def capV (E : Env) (m : Mem) : List TypeId → List Value → R Value
  | t :: _, [x] => (E.tdR t).bnd fun td => capD m td x
  | _, _ => .no 78

noncomputable def max2V : Value → Value → R Value
  | .int k x, .int _ y => .ok (.int k (if y > x then y else x))
  | _, _ => .no 79
noncomputable def min2V : Value → Value → R Value
  | .int k x, .int _ y => .ok (.int k (if y < x then y else x))
  | _, _ => .no 80
noncomputable def foldV (f : Value → Value → R Value) : Value → List Value → R Value
  | x, [] => .ok x
  | x, y :: r => (f x y).bnd fun z => foldV f z r
noncomputable def foldV1 (f : Value → Value → R Value) : List Value → R Value
  | [] => .no 81
  | x :: r => foldV f x r

noncomputable def dropNth : List MapEntry → Nat → List MapEntry
  | [], _ => []
  | _ :: es, 0 => es
  | e :: es, i + 1 => e :: dropNth es i
noncomputable def deleted (m : Mem) (r : Nat) (es : List MapEntry) (c : Nat) : Option (Nat × MapEntry) → Mem
  | some (i, _) => m.put r (.map (dropNth es i) c)
  | none => m
noncomputable def deleteD (E : Env) (m : Mem) : TD → Value → Value → R Mem
  | .map kt _, .map (some r), k => (isOkKey E kt k).bnd fun _ => (mapO (m.get r)).bnd fun p => (findK E kt k p.1 0).bnd fun q => .ok (deleted m r p.1 p.2 q)
  | .map kt _, .map none, k => (isOkKey E kt k).bnd fun _ => .ok m
  | _, _, _ => .no 82
noncomputable def deleteV (E : Env) (m : Mem) : List TypeId → List Value → R Mem
  | t :: _, [x, k] => (E.tdR t).bnd fun td => deleteD E m td x k
  | _, _ => .no 83

/-! what an operation comes to -/
inductive Res where
  | val (v : Value) (m : Mem)
  | enter (f : FuncId) (args : List Value) (m : Mem)
  | round (l : Nat) (r : Loop) (tmps : List Value) (m : Mem)
  | defer (d : Deferred) (m : Mem)
  | recover (m : Mem)
  | panic (t : TypeId) (v : Value) (m : Mem)

noncomputable def valR (m : Mem) (r : R Value) : R Res := r.bnd fun v => .ok (.val v m)
noncomputable def memR (r : R Mem) : R Res := r.bnd fun m => .ok (.val (.tuple #[]) m)
noncomputable def bothR (r : R (Value × Mem)) : R Res := r.bnd fun p => .ok (.val p.1 p.2)
noncomputable def okP (p : Value × Mem) : R Res := .ok (.val p.1 p.2)

noncomputable def callB (E : Env) (m : Mem) (f : FuncId) (args : List Value) : Option Code → R Res
  | some _ => .ok (.enter f args m)
  | none => valR m (E.ext f args)
noncomputable def callP (E : Env) (m : Mem) (f : FuncId) (args : List Value) (fn : Func) : Option (List Value → Mem → R (Value × Mem)) → R Res
  | some p => bothR (p args m)
  | none => callB E m f args fn.body
noncomputable def callF (E : Env) (m : Mem) (f : FuncId) (args : List Value) : R Res := (need 84 (E.fn f)).bnd fun fn => callP E m f args fn (E.prim f)

noncomputable def isPtr : TD → Bool
  | .pointer _ => true
  | _ => false
noncomputable def methodF (td : TD) : Method → R FuncId
  | ⟨_, _, ⟨[]⟩, some (f, b)⟩ => bif isPtr td == b then .ok f else .no 85
  | _ => .no 86
noncomputable def methodL (td : TD) (name : String) : List Method → R FuncId
  | [] => .no 87
  | q :: qs => bif q.name == name then methodF td q else methodL td name qs
noncomputable def invokeI (E : Env) (m : Mem) (name : String) : List Value → R Res
  | .iface t v :: rest => (E.tiR t).bnd fun i => (methodL i.td name i.methods).bnd fun f => callF E m f (v :: rest)
  | _ => .no 88

noncomputable def setL : List Value → Nat → Value → List Value
  | [], _, _ => []
  | _ :: l, 0, v => v :: l
  | x :: l, i + 1, v => x :: setL l i v
noncomputable def fillTmps : List Tmp → List Value → List Value → Option (List Value)
  | [], [], l => some l
  | t :: ts, v :: vs, l => fillTmps ts vs (setL l t v)
  | _, _, _ => none

noncomputable def loopO : Option AO → R Loop
  | some (.loop l) => .ok l
  | _ => .no 89
noncomputable def roundR (m : Mem) (l : Nat) (args : List Value) (r : Loop) : R Res := (need 90 (fillTmps r.params.toList args r.tmps.toList)).bnd fun ts => .ok (.round l r ts m)

noncomputable def invokeV (E : Env) (m : Mem) : Fn → List Value → List Value → R Res
  | .func f, cap, args => callF E m f (args ++ cap)
  | .method name, _, args => invokeI E m name args
  | .yield l, _, args => (loopO (m.get l)).bnd fun r => roundR m l args r
  | _, _, _ => .no 91

noncomputable def callVal (E : Env) (m : Mem) (args : List Value) : Value → R Res
  | .func fn ⟨first⟩ ⟨cap⟩ => invokeV E m fn cap (first ++ args)
  | _ => .no 92

noncomputable def panicV (m : Mem) : Value → R Res
  | .iface t v => .ok (.panic t v m)
  | _ => .no 93
noncomputable def panicL (m : Mem) : List Value → R Res
  | [x] => panicV m x
  | _ => .no 94

noncomputable def builtinV : Builtin → Env → Mem → List TypeId → List Value → R Res
  | .append, E, m, ts, args => bothR (appendV E m ts args)
  | .copy, E, m, ts, args => bothR (copyV E m ts args)
  | .len, E, m, ts, args => valR m (lenBV E m ts args)
  | .cap, E, m, ts, args => valR m (capV E m ts args)
  | .max, _, m, _, args => valR m (foldV1 max2V args)
  | .min, _, m, _, args => valR m (foldV1 min2V args)
  | .delete, E, m, ts, args => memR (deleteV E m ts args)
  | .recover, _, m, _, _ => .ok (.recover m)
  | .panic, _, m, _, args => panicL m args
  | _, _, _, _, _ => .no 95

noncomputable def bytesOf : List Value → Option (List UInt8)
  | [] => some []
  | .int .u8 (.ofNat b) :: r => (bytesOf r).map (UInt8.ofNat b :: ·)
  | _ :: _ => none
noncomputable def isU8 : TD → Bool
  | .int .u8 => true
  | _ => false
noncomputable def convertSlice (E : Env) (m : Mem) (e : TypeId) : Value → R (Value × Mem)
  | .slice none _ _ => .ok (bstr [], m)
  | .slice (some a) n _ => (loadC m a n).bnd fun l => (need 96 (bytesOf l)).bnd fun bs => .ok (bstr bs, m)
  | _ => .no 97
noncomputable def convertD (E : Env) (m : Mem) : TD → TD → Value → R (Value × Mem)
  | _, .int k, .int _ n => .ok (.int k (k.wrap n), m)
  | .int _, .string, .int _ n => .ok (.string (Utf8.encode n), m)
  | .string, .string, .string s => .ok (.string s, m)
  | .string, .slice e, .string ⟨⟨s⟩⟩ => (E.tdR e).bnd fun td => bif isU8 td then .ok (newS m (byteVals s) e (some 1) 0 s.length s.length) else .no 98
  | .slice e, .string, x => (E.tdR e).bnd fun td => bif isU8 td then convertSlice E m e x else .no 99
  | _, _, _ => .no 100

noncomputable def T.at (t : T Value) (k : Nat) : Value := match t.get k with
  | some v => v
  | none => .tuple #[]

noncomputable def leaf : Value → Value
  | .bool b => .bool b
  | .int k n => .int k n
  | .string s => .string s
  | .pointer none => .pointer none
  | .slice none l c => .slice none l c
  | .map none => .map none
  | .nilFunc => .nilFunc
  | .nilIface => .nilIface
  | _ => .chan none
noncomputable def leaves : List Value → List Value
  | [] => []
  | v :: r => leaf v :: leaves r
/-- a constant, as far as it is told -/
noncomputable def cst : Value → Value
  | .agg ⟨l⟩ => .agg ⟨leaves l⟩
  | .iface t v => .iface t (leaf v)
  | v => leaf v
noncomputable def ev (E : Env) : T Value → Operand → Value
  | tm, .tmp t => tm.at t
  | _, .const v => cst v
  | _, .global g => bif Nat.blt g E.ng then .pointer (some ⟨g, 0, none⟩) else .chan none
  | _, .func f => .func (.func f) #[] #[]
noncomputable def evL (E : Env) (tm : T Value) : List Operand → List Value
  | [] => []
  | x :: r => ev E tm x :: evL E tm r
noncomputable def oev (E : Env) (tm : T Value) : Option Operand → Option Value
  | none => none
  | some x => some (ev E tm x)
noncomputable def evP (E : Env) (tm : T Value) : List (Nat × Operand) → List (Nat × Value)
  | [] => []
  | (i, x) :: r => (i, ev E tm x) :: evP E tm r

noncomputable def isLit : Operand → Bool
  | .const _ => true
  | _ => false

/-! putting together -/
noncomputable def putOne (v : Value) (cs : List Value) : Option (Nat × Nat) → R (List Value)
  | none => .no 161
  | some (off, n) => (cellsR v).bnd fun l => bif Nat.beq l.length n then need 162 (overw cs off l) else .no 163
noncomputable def putAll (size : Nat → Option (Nat × Nat)) : List (Nat × Value) → List Value → R (List Value)
  | [], cs => .ok cs
  | (i, v) :: r, cs => (putOne v cs (size i)).bnd (putAll size r)
noncomputable def placeS : List FD → Nat → Option (Nat × Nat)
  | [], _ => none
  | f :: _, 0 => some (f.off, f.size)
  | _ :: fs, i + 1 => placeS fs i
noncomputable def buildD (E : Env) (z : Value) (ps : List (Nat × Value)) : TD → R Value
  | .struct fs => (cellsR z).bnd fun z => (putAll (placeS fs) ps z).bnd fun cs => .ok (aggL cs)
  | .array _ e => (E.sizeR e).bnd fun k => (cellsR z).bnd fun z => (putAll (fun i => some (i * k, k)) ps z).bnd fun cs => .ok (aggL cs)
  | _ => .no 103
noncomputable def manyZ (z : List Value) : Nat → List Value
  | 0 => []
  | n + 1 => z ++ manyZ z n
noncomputable def buildSliceD (E : Env) (m : Mem) (n : Nat) (ps : List (Nat × Value)) : TD → R (Value × Mem)
  | .slice e => (E.tiR e).bnd fun i => bif Nat.ble (n * i.size) 100000 then (need 104 i.zero).bnd fun z => (cellsR z).bnd fun z => bif Nat.beq z.length i.size then (putAll (fun j => some (j * i.size, i.size)) ps (manyZ z n)).bnd fun cs => .ok (newS m cs e none 0 n n) else .no 105 else .no 106
  | _ => .no 107
noncomputable def makeSliceD (E : Env) (m : Mem) (n c : Nat) : TD → R (Value × Mem)
  | .slice e => (E.tiR e).bnd fun i => (need 164 i.zero).bnd fun z => (cellsR z).bnd fun z => bif Nat.ble n c && Nat.ble c 10000 && Nat.ble i.bytes 10000000 && Nat.beq z.length i.size then .ok (newS m (manyZ z c) e none 0 n c) else .no 108
  | _ => .no 109
noncomputable def makeMapD (m : Mem) : TD → Option Value → R (Value × Mem)
  | .map _ _, none => .ok (.map (some m.next), m.new (.map [] 0))
  | .map _ _, some (.int _ _) => .ok (.map (some m.next), m.new (.map [] 0))
  | _, _ => .no 110
noncomputable def makeIfaceD (t : TypeId) (v : Value) : TD → R Value
  | .iface => .no 111
  | .other => .no 111
  | _ => .ok (.iface t v)
noncomputable def nilCheckV : Value → R Value
  | .pointer (some a) => .ok (.pointer (some a))
  | .iface t w => .ok (.iface t w)
  | .func (.func f) a b => .ok (.func (.func f) a b)
  | .func (.yield f) a b => .ok (.func (.yield f) a b)
  | _ => .no 112
noncomputable def pickV : Value → Value → Value → R Value
  | .bool true, a, _ => .ok a
  | .bool false, _, b => .ok b
  | _, _, _ => .no 113
noncomputable def nthV : List Value → Nat → Option Value
  | [], _ => none
  | v :: _, 0 => some v
  | _ :: r, i + 1 => nthV r i
noncomputable def extractV : Value → Nat → R Value
  | .tuple ⟨vs⟩, i => need 114 (nthV vs i)
  | _, _ => .no 115
noncomputable def fieldV (E : Env) (fd : FD) : Value → R Value
  | .agg ⟨cs⟩ => partOf E fd.type cs fd.off
  | _ => .no 116

noncomputable def deferT (m : Mem) (args : List Value) : Value → R Res
  | .func fn ⟨first⟩ cap => .ok (.defer ⟨.fn fn cap, ⟨first ++ args⟩⟩ m)
  | _ => .no 117

noncomputable def callC : Callee → Env → T Value → Mem → List Operand → List TypeId → R Res
  | .builtin b, E, tm, m, args, ts => builtinV b E m ts (evL E tm args)
  | .invoke r name, E, tm, m, args, _ => invokeI E m name (ev E tm r :: evL E tm args)
  | .value f, E, tm, m, args, _ => callVal E m (evL E tm args) (ev E tm f)
noncomputable def deferC : Callee → Env → T Value → Mem → List Operand → R Res
  | .value f, E, tm, m, args => deferT m (evL E tm args) (ev E tm f)
  | _, _, _, _, _ => .no 118
noncomputable def makeFuncV : Fn → List Value → List Value → R Value
  | .func f, a, c => .ok (.func (.func f) ⟨a⟩ ⟨c⟩)
  | _, _, _ => .no 119

noncomputable def execV : Op → Env → T Value → Mem → R Res
  | .move x, E, tm, m => .ok (.val (ev E tm x) m)
  | .assign x, E, tm, m => .ok (.val (ev E tm x) m)
  | .pick c a b, E, tm, m => valR m (pickV (ev E tm c) (ev E tm a) (ev E tm b))
  | .alloc e, E, _, m => (E.zeroR e).bnd fun z => (cellsR z).bnd fun z => okP (newP m (.cells z e none false 0))
  | .box e x, E, tm, m => (cellsR (ev E tm x)).bnd fun z => okP (newP m (.cells z e none false 0))
  | .build t ps, E, tm, m => (E.tiR t).bnd fun i => (need 120 i.zero).bnd fun z => valR m (buildD E z (evP E tm ps.toList) i.td)
  | .buildSlice t n ps, E, tm, m => (E.tdR t).bnd fun td => bothR (buildSliceD E m n (evP E tm ps.toList) td)
  | .load t a, E, tm, m => (addrOf (ev E tm a)).bnd fun a => valR m (loadV E m t a)
  | .store t a x, E, tm, m => (addrOf (ev E tm a)).bnd fun a => memR (storeV E m t a (ev E tm x))
  | .nilCheck x, E, tm, m => valR m (nilCheckV (ev E tm x))
  | .binOp op t x y _, E, tm, m => valR m (binOpV E t (isLit x || isLit y) op (ev E tm x) (ev E tm y))
  | .unOp op _ x, E, tm, m => valR m (unOpV op (ev E tm x))
  | .convert s d x, E, tm, m => (E.tdR s).bnd fun a => (E.tdR d).bnd fun b => bothR (convertD E m a b (ev E tm x))
  | .makeInterface t x, E, tm, m => (E.tdR t).bnd fun td => valR m (makeIfaceD t (ev E tm x) td)
  | .makeFunc f a c, E, tm, m => valR m (makeFuncV f (evL E tm a.toList) (evL E tm c.toList))
  | .makeMap t r, E, tm, m => (E.tdR t).bnd fun td => bothR (makeMapD m td (oev E tm r))
  | .makeSlice t l c, E, tm, m => (E.tdR t).bnd fun td => (natVal (ev E tm l)).bnd fun n => (natVal (ev E tm c)).bnd fun c => bothR (makeSliceD E m n c td)
  | .slice t x lo hi mx, E, tm, m => (E.tdR t).bnd fun td => valR m (sliceD E m td (ev E tm x) (oev E tm lo) (oev E tm hi) (oev E tm mx))
  | .fieldAddr t x f, E, tm, m => (E.tdR t).bnd fun td => (fieldR td f).bnd fun fd => (addrOf (ev E tm x)).bnd fun a => bif Nat.beq fd.size 0 then .no 171 else .ok (.val (.pointer (some (addA a fd.off))) m)
  | .field t x f, E, tm, m => (E.tdR t).bnd fun td => (fieldR td f).bnd fun fd => valR m (fieldV E fd (ev E tm x))
  | .indexAddr t x i, E, tm, m => (E.tdR t).bnd fun td => (natVal (ev E tm i)).bnd fun n => valR m (indexAddrD E td (ev E tm x) n)
  | .index t x i, E, tm, m => (E.tdR t).bnd fun td => (natVal (ev E tm i)).bnd fun n => valR m (indexD E td (ev E tm x) n)
  | .lookup t x i ok, E, tm, m => (E.tdR t).bnd fun td => valR m (lookupD E m td (ev E tm x) (ev E tm i) ok)
  | .mapUpdate t x k y, E, tm, m => (E.tdR t).bnd fun td => memR (mapUpdateD E m td (ev E tm x) (ev E tm k) (ev E tm y))
  | .insert t x k y, E, tm, m => (E.tdR t).bnd fun td => memR (mapUpdateD E m td (ev E tm x) (ev E tm k) (ev E tm y))
  | .mapEntry t x k, E, tm, m => (E.tdR t).bnd fun td => bothR (mapEntryD E m td (ev E tm x) (ev E tm k))
  | .entryStore _ x s y, E, tm, m => memR (entryStoreV m (ev E tm x) (ev E tm s) (ev E tm y))
  | .range t x, E, tm, m => (E.tdR t).bnd fun td => bothR (rangeD m td (ev E tm x))
  | .next it b, E, tm, m => bothR (nextV m (ev E tm it) b)
  | .typeAssert x _ t ok, E, tm, m => (E.tdR t).bnd fun td => valR m (typeAssertD E t ok td (ev E tm x))
  | .extract x i, E, tm, m => valR m (extractV (ev E tm x) i)
  | .call ⟨c, ⟨args⟩, ⟨ts⟩⟩, E, tm, m => callC c E tm m args ts
  | .defer ⟨c, ⟨args⟩, _⟩, E, tm, m => deferC c E tm m args
  | .panic x, E, tm, m => panicV m (ev E tm x)
  | _, _, _, _ => .no 121

/-! the machine -/
/-- what a frame has still to do; 'inRegion': the operations that are left, from one with a number on -/
inductive AI where
  | code (c : Code)
  | inBlock (id : Nat)
  | inLoop (body : Code)
  | inScope (body : Code)
  | inRegion (ops : Array Oper) (left : List Oper) (i : Nat)
  | inRangeFunc (loop : Nat)
  | endRangeFunc (loop : Nat)
  | beginRound

structure AF where
  fn : FuncId
  nt : Nat
  tmps : T Value
  todo : List AI
  defers : List Deferred
  mode : FrameMode
  kind : CallKind
  roundOf : Option Nat

structure AM where
  fr : AF
  cs : List AF
  m : Mem

inductive St where
  | next (S : AM)
  | done (v : Value) (m : Mem)

noncomputable def goOn (fr : AF) (cs : List AF) (m : Mem) : R St := .ok (.next ⟨fr, cs, m⟩)

noncomputable def setTs : List Value → Nat → T Value → T Value
  | [], _, t => t
  | v :: vs, i, t => setTs vs (i + 1) (t.set i (some v))

noncomputable def enterF (E : Env) (f : FuncId) (args : List Value) (kind : CallKind) : R AF :=
  (need 122 (E.fn f)).bnd fun fn => (need 123 fn.body).bnd fun b => .ok ⟨f, max fn.ntmps args.length, setTs args 0 .nil, [.code b], [], .run, kind, none⟩

noncomputable def nthO {α : Type} (l : List α) : Nat → Option α :=
  List.rec (motive := fun _ => Nat → Option α) (fun _ => none) (fun o _ rec i => Nat.rec (motive := fun _ => Option α) (some o) (fun j _ => rec j) i) l
noncomputable def dstO : Option Oper → Option Tmp
  | some o => o.dst
  | none => none
noncomputable def dstOf (ops : Array Oper) (i : Nat) : Option Tmp := dstO (nthO ops.toList i)

noncomputable def putT : Option Tmp → Value → Nat → T Value → R (T Value)
  | none, _, _, tm => .ok tm
  | some d, v, nt, tm => bif Nat.blt d nt then .ok (tm.set d (some v)) else .no 124

noncomputable def finishF : AF → Value → R AF
  | ⟨fn, nt, tm, .inRegion ops (o :: os) i :: k, ds, md, kd, ro⟩, v => (putT o.dst v nt tm).bnd fun tm => .ok ⟨fn, nt, tm, .inRegion ops os (i + 1) :: k, ds, md, kd, ro⟩
  | ⟨fn, nt, tm, .inRangeFunc l :: k, ds, md, kd, ro⟩, _ => .ok ⟨fn, nt, tm, .endRangeFunc l :: k, ds, md, kd, ro⟩
  | _, _ => .no 125

noncomputable def raiseF : AF → List PanicEntry → AF
  | ⟨fn, nt, tm, td, ds, .panicking chain, kd, ro⟩, vs => ⟨fn, nt, tm, td, ds, .panicking (vs ++ chain), kd, ro⟩
  | ⟨fn, nt, tm, td, ds, _, kd, ro⟩, vs => ⟨fn, nt, tm, td, ds, .panicking vs, kd, ro⟩

noncomputable def goFin (fr : AF) (v : Value) (cs : List AF) (m : Mem) : R St := (finishF fr v).bnd fun fr => goOn fr cs m

noncomputable def recoverV (fr : AF) (m : Mem) : CallKind → Option Nat → List AF → R St
  | .deferred, none, ⟨fn, nt, tm, td, ds, .panicking (⟨v, false, false⟩ :: older), kd, ro⟩ :: rest => goFin fr v (⟨fn, nt, tm, td, ds, .panicking (⟨v, true, false⟩ :: older), kd, ro⟩ :: rest) m
  | .deferred, none, c :: rest => goFin fr .nilIface (c :: rest) m
  | _, _, _ => .no 126
noncomputable def addDefer (d : Deferred) : AF → R AF
  | ⟨fn, nt, tm, td, ds, md, kd, none⟩ => .ok ⟨fn, nt, tm, td, d :: ds, md, kd, none⟩
  | _ => .no 127

noncomputable def applyR : Res → Env → AF → List AF → R St
  | .val v m, _, fr, cs => goFin fr v cs m
  | .enter f args m, E, fr, cs => (enterF E f args .normal).bnd fun fr' => goOn fr' (fr :: cs) m
  | .round l r ts m, _, fr, cs => goOn ⟨r.fn, ts.length, setTs ts 0 .nil, [.code r.assign, .beginRound, .code r.body], [], .run, .normal, some l⟩ (fr :: cs) m
  | .defer d m, _, fr, cs => (addDefer d fr).bnd fun fr => goFin fr (.tuple #[]) cs m
  | .recover m, _, fr, cs => recoverV fr m fr.kind fr.roundOf cs
  | .panic t v m, _, fr, cs => goOn (raiseF fr [⟨.iface t v, false, false⟩]) cs m

noncomputable def exitToL (id : Nat) : List AI → Option (List AI)
  | .inBlock id' :: k => bif Nat.beq id' id then some k else exitToL id k
  | _ :: k => exitToL id k
  | [] => none

noncomputable def asB : Option Value → R (Option Bool)
  | some (.bool b) => .ok (some b)
  | some (.chan _) => .no 174
  | _ => .ok none
noncomputable def yieldedL (ops : Array Oper) (tm : T Value) (j : Nat) : R (Option Bool) := match dstOf ops j with
  | some d => asB (tm.get d)
  | none => .ok none
noncomputable def isB : Option Bool → Bool → Bool
  | some a, b => a == b
  | none, _ => false
noncomputable def wantedL : Option (Nat × Bool) → Array Oper → T Value → R Bool
  | none, _, _ => .ok true
  | some (j, want), ops, tm => (yieldedL ops tm j).bnd fun y => .ok (isB y want)

noncomputable def resultL (E : Env) (m : Mem) (tm : T Value) : List ResultVar → R (List Value)
  | [] => .ok []
  | .tmp t :: r => (resultL E m tm r).bnd fun l => .ok (tm.at t :: l)
  | .cell a t :: r => (addrOf (tm.at a)).bnd fun a => (loadV E m t a).bnd fun v => (resultL E m tm r).bnd fun l => .ok (v :: l)
noncomputable def oneOf : List Value → Value
  | [v] => v
  | l => tupL l
noncomputable def resultsV (E : Env) (m : Mem) (fn : Func) (tm : T Value) : R Value := (resultL E m tm fn.results.toList).bnd fun l => .ok (oneOf l)

/-! regions that draw their order -/
noncomputable def isRead : Op → Bool
  | .load .. => true
  | .lookup .. => true
  | .call ⟨.builtin .len, _, _⟩ => true
  | .slice .. => true
  | .call ⟨.builtin .cap, _, _⟩ => true
  | _ => false
noncomputable def isPure : Op → Bool
  | .move _ => true
  | .assign _ => true
  | .pick .. => true
  | .build .. => true
  | .nilCheck _ => true
  | .binOp .. => true
  | .unOp .. => true
  | .makeInterface .. => true
  | .makeFunc .. => true
  | .fieldAddr .. => true
  | .field .. => true
  | .indexAddr .. => true
  | .index .. => true
  | .typeAssert .. => true
  | .extract .. => true
  | .call ⟨.builtin .max, _, _⟩ => true
  | .call ⟨.builtin .min, _, _⟩ => true
  | _ => false
noncomputable def isAlloc : Op → Bool
  | .alloc _ => true
  | .box .. => true
  | .buildSlice .. => true
  | .makeMap .. => true
  | _ => false
/-- 0 pure, 1 read, 2 allocation, 3 effect -/
noncomputable def sortOf (o : Op) : Nat := bif isPure o then 0 else bif isRead o then 1 else bif isAlloc o then 2 else 3

noncomputable def mem (x : Nat) : List Nat → Bool
  | [] => false
  | y :: l => bif Nat.beq x y then true else mem x l
/-- of each operation those that are ahead of it in every order -/
noncomputable def nthD (bs : List (List Nat)) (i : Nat) : List Nat := match bs[i]? with
  | some l => l
  | none => []
noncomputable def aheadE (bs : List (List Nat)) : List Edge → List Nat
  | [] => []
  | e :: es => bif Region.binds .any e then e.on :: (nthD bs e.on ++ aheadE bs es) else aheadE bs es
noncomputable def aheadL : List Oper → List (List Nat) → List (List Nat)
  | [], bs => bs
  | o :: os, bs => aheadL os (bs ++ [aheadE bs o.after.toList])
noncomputable def edgesOk : List Oper → Nat → Bool
  | [], _ => true
  | o :: os, i => o.after.toList.all (fun e => !Region.binds .any e || Nat.blt e.on i) && edgesOk os (i + 1)
noncomputable def tmpsOf : List Operand → List Tmp
  | [] => []
  | .tmp t :: r => t :: tmpsOf r
  | _ :: r => tmpsOf r
/-- each name that an operation has: whoever writes it is ahead, or behind -/
noncomputable def writersOk (bs : List (List Nat)) (j : Nat) (t : Tmp) : List Oper → Nat → Bool
  | [], _ => true
  | o :: os, i => (match o.dst with
      | some d => !Nat.beq d t || Nat.beq i j || mem i (nthD bs j) || (mem j (nthD bs i) && Nat.blt j i)
      | none => true) && writersOk bs j t os (i + 1)
noncomputable def dstOnce (j : Nat) (t : Tmp) : List Oper → Nat → Bool
  | [], _ => true
  | o :: os, i => (match o.dst with
      | some d => !Nat.beq d t || Nat.beq i j
      | none => true) && dstOnce j t os (i + 1)
noncomputable def guardOk (bs : List (List Nat)) (j : Nat) : Option (Nat × Bool) → Bool
  | none => true
  | some (g, _) => mem g (nthD bs j)
noncomputable def effsOk (bs : List (List Nat)) (j : Nat) : List Oper → Nat → Bool
  | [], _ => true
  | o :: os, i => (!Nat.beq (sortOf o.op) 3 || !Nat.blt i j || mem i (nthD bs j)) && effsOk bs j os (i + 1)
noncomputable def operOk (ops : List Oper) (bs : List (List Nat)) (j : Nat) (o : Oper) : Bool :=
  (tmpsOf o.op.operands.toList).all (fun t => writersOk bs j t ops 0) &&
  (match o.dst with | some d => dstOnce j d ops 0 | none => true) && guardOk bs j o.guard && (!Nat.beq (sortOf o.op) 3 || effsOk bs j ops 0)
noncomputable def opersOk (ops : List Oper) (bs : List (List Nat)) : List Oper → Nat → Bool
  | [], _ => true
  | o :: os, j => operOk ops bs j o && opersOk ops bs os (j + 1)
noncomputable def regionOk (ops : List Oper) : Bool := edgesOk ops 0 && opersOk ops (aheadL ops []) ops 0

/-- what is told of the run in the text's order: reads so far; snapshots of memory ahead of each effect, the last one first; allocations that nobody needed yet -/
structure Dr where
  tm : T Value
  m : Mem
  reads : List (Nat × Oper × T Value × Value)
  past : List (Nat × Mem)
  pend : List (Nat × Nat × AO)

noncomputable def readIs (E : Env) (o : Oper) (tm : T Value) (v : Value) (m : Mem) : Bool := match execV o.op E tm m with
  | .ok (.val v' _) => vEq 12 v v'
  | _ => false
/-- a read gives the same at each earlier memory at which it might be done -/
noncomputable def pastOk (E : Env) (bs : List (List Nat)) (i : Nat) (o : Oper) (tm : T Value) (v : Value) : List (Nat × Mem) → Bool
  | [] => true
  | (e, m) :: r => (mem e (nthD bs i) || readIs E o tm v m) && pastOk E bs i o tm v r
/-- each earlier read that need not be ahead of an effect gives the same behind it -/
noncomputable def laterOk (E : Env) (bs : List (List Nat)) (e : Nat) (m : Mem) : List (Nat × Oper × T Value × Value) → Bool
  | [] => true
  | (i, o, tm, v) :: r => (mem i (nthD bs e) || readIs E o tm v m) && laterOk E bs e m r
noncomputable def putMany : List (Nat × Nat × AO) → Mem → Mem
  | [], m => m
  | (_, x, o) :: r, m => putMany r (m.put x o)
noncomputable def forced (b : List Nat) : List (Nat × Nat × AO) → List (Nat × Nat × AO)
  | [] => []
  | (i, x, o) :: r => bif mem i b then (i, x, o) :: forced b r else forced b r
noncomputable def unforced (b : List Nat) : List (Nat × Nat × AO) → List (Nat × Nat × AO)
  | [] => []
  | (i, x, o) :: r => bif mem i b then unforced b r else (i, x, o) :: unforced b r

/-- every block that a value names has a number below -/
noncomputable def belowVs (f : Value → Bool) : List Value → Bool
  | [] => true
  | v :: r => f v && belowVs f r
noncomputable def belowA (n : Nat) : Option Addr → Bool
  | none => true
  | some ⟨b, _, _⟩ => Nat.blt b n
noncomputable def belowN (n : Nat) : Option Nat → Bool
  | none => true
  | some b => Nat.blt b n
noncomputable def belowF (n : Nat) : Fn → Bool
  | .func _ => true
  | .method _ => true
  | .yield l => Nat.blt l n
  | _ => false
noncomputable def belowD (n : Nat) (f : Value → Bool) : Value → Bool
  | .bool _ => true
  | .int _ _ => true
  | .string _ => true
  | .nilFunc => true
  | .nilIface => true
  | .chan none => true
  | .pointer a => belowA n a
  | .slice a _ _ => belowA n a
  | .map a => belowN n a
  | .func g ⟨a⟩ ⟨c⟩ => belowF n g && (belowVs f a && belowVs f c)
  | .iface _ v => f v
  | .agg ⟨l⟩ => belowVs f l
  | .tuple ⟨l⟩ => belowVs f l
  | _ => false
noncomputable def belowV : Nat → Nat → Value → Bool
  | 0, _, _ => false
  | d + 1, n, v => belowD n (belowV d n) v
noncomputable def putB (dst : Option Tmp) (v : Value) (n nt : Nat) (tm : T Value) : R (T Value) := bif belowV 20 n v then putT dst v nt tm else .no 175

noncomputable def drPure (nt : Nat) (o : Oper) (d : Dr) : Res → R Dr
  | .val v _ => (putB o.dst v d.m.next nt d.tm).bnd fun tm => .ok ⟨tm, d.m, d.reads, d.past, d.pend⟩
  | _ => .no 128
noncomputable def drRead (E : Env) (bs : List (List Nat)) (nt i : Nat) (o : Oper) (d : Dr) : Res → R Dr
  | .val v _ => bif pastOk E bs i o d.tm v d.past then (putB o.dst v d.m.next nt d.tm).bnd fun tm => .ok ⟨tm, d.m, (i, o, d.tm, v) :: d.reads, d.past, d.pend⟩ else .no 129
  | _ => .no 130
noncomputable def drAlloc (nt i : Nat) (o : Oper) (d : Dr) : Res → R Dr
  | .val v m => (need 131 (m.get d.m.next)).bnd fun ao => (putB o.dst v (d.m.next + 1) nt d.tm).bnd fun tm => .ok ⟨tm, ⟨d.m.next + 1, d.m.objs⟩, d.reads, d.past, (i, d.m.next, ao) :: d.pend⟩
  | _ => .no 132
noncomputable def drEff1 (E : Env) (bs : List (List Nat)) (nt i : Nat) (o : Oper) (d : Dr) (p : Value × Mem) : R Dr :=
  bif laterOk E bs i p.2 d.reads && Nat.ble d.m.next p.2.next then (putB o.dst p.1 p.2.next nt d.tm).bnd fun tm => .ok ⟨tm, p.2, d.reads, (i, d.m) :: d.past, unforced (nthD bs i) d.pend⟩ else .no 133
noncomputable def drEff (E : Env) (run : AM → R (Value × Mem)) (bs : List (List Nat)) (nt i : Nat) (o : Oper) (d : Dr) : Res → R Dr
  | .val v m => drEff1 E bs nt i o d (v, m)
  | .enter f args m => (enterF E f args .normal).bnd fun fr => (run ⟨fr, [], m⟩).bnd fun p => drEff1 E bs nt i o d p
  | _ => .no 134
noncomputable def drOp (E : Env) (run : AM → R (Value × Mem)) (bs : List (List Nat)) (nt i : Nat) (o : Oper) (d : Dr) : Nat → R Dr
  | 0 => (execV o.op E d.tm d.m).bnd (drPure nt o d)
  | 1 => (execV o.op E d.tm d.m).bnd (drRead E bs nt i o d)
  | 2 => (execV o.op E d.tm d.m).bnd (drAlloc nt i o d)
  | _ => (execV o.op E d.tm (putMany (forced (nthD bs i) d.pend) d.m)).bnd (drEff E run bs nt i o d)
noncomputable def drawL (E : Env) (run : AM → R (Value × Mem)) (ops : Array Oper) (bs : List (List Nat)) (nt : Nat) : List Oper → Nat → Dr → R Dr
  | [], _, d => .ok d
  | o :: os, i, d => ((wantedL o.guard ops d.tm).bnd fun b => bif b then drOp E run bs nt i o d (sortOf o.op) else (putT o.dst (.tuple #[]) nt d.tm).bnd fun tm => .ok ⟨tm, d.m, d.reads, d.past, d.pend⟩).bnd
      fun d => drawL E run ops bs nt os (i + 1) d
noncomputable def drawV (E : Env) (run : AM → R (Value × Mem)) (ops : Array Oper) (nt : Nat) (tm : T Value) (m : Mem) : R (T Value × Mem) :=
  bif regionOk ops.toList then (drawL E run ops (aheadL ops.toList []) nt ops.toList 0 ⟨tm, m, [], [], []⟩).bnd fun d => .ok (d.tm, putMany d.pend d.m) else .no 135

/-! a step -/
noncomputable def leaveR (cs : List AF) (m : Mem) (l : Nat) (jump : Option Code) (r : Loop) : R St := match cs with
  | c :: rest => goFin c (.bool jump.isNone) rest (m.put l (.loop ⟨if jump.isNone then .ready else .done, jump, r.fn, r.tmps, r.params, r.assign, r.body, r.defers⟩))
  | [] => .no 136
noncomputable def leaveF : AF → List AF → Mem → Option Code → R St
  | ⟨fn, nt, tm, td, ds, _, kd, none⟩, cs, m, none => goOn ⟨fn, nt, tm, td, ds, .returning, kd, none⟩ cs m
  | ⟨fn, nt, tm, td, ds, _, kd, none⟩, cs, m, some .ret => goOn ⟨fn, nt, tm, td, ds, .returning, kd, none⟩ cs m
  | ⟨_, _, _, _, _, _, .normal, some l⟩, cs, m, jump => (loopO (m.get l)).bnd fun r => leaveR cs m l jump r
  | _, _, _, _ => .no 138

noncomputable def condK (x y : Code) : Value → R Code
  | .bool true => .ok x
  | .bool false => .ok y
  | _ => .no 139

noncomputable def tmpsL (tm : T Value) : Nat → Nat → List Value
  | 0, _ => []
  | n + 1, i => tm.at i :: tmpsL tm n (i + 1)

noncomputable def rangeF (E : Env) (f : Operand) (ps : Array Tmp) (assign body : Code) (k : List AI) : AF → List AF → Mem → R St
  | ⟨fn, nt, tm, _, ds, md, kd, none⟩, cs, m =>
    (callVal E ((m.new (.deferred (some []))).new (.loop ⟨.ready, none, fn, ⟨tmpsL tm nt 0⟩, ps, assign, body, m.next⟩)) [.func (.yield (m.next + 1)) #[] #[]] (ev E tm f)).bnd fun r =>
      applyR r E ⟨fn, nt, tm, .inRangeFunc (m.next + 1) :: k, ⟨.collected m.next, #[]⟩ :: ds, md, kd, none⟩ cs
  | ⟨fn, nt, tm, _, ds, md, kd, some l⟩, cs, m => (loopO (m.get l)).bnd fun lo =>
    (callVal E (m.new (.loop ⟨.ready, none, fn, ⟨tmpsL tm nt 0⟩, ps, assign, body, lo.defers⟩)) [.func (.yield m.next) #[] #[]] (ev E tm f)).bnd fun r =>
      applyR r E ⟨fn, nt, tm, .inRangeFunc m.next :: k, ds, md, kd, some l⟩ cs

noncomputable def withK (k : List AI) : AF → AF
  | ⟨fn, nt, tm, _, ds, md, kd, ro⟩ => ⟨fn, nt, tm, k, ds, md, kd, ro⟩
noncomputable def withT (tm : T Value) (k : List AI) : AF → AF
  | ⟨fn, nt, _, _, ds, md, kd, ro⟩ => ⟨fn, nt, tm, k, ds, md, kd, ro⟩

/-- the operations that are left, in a row: up to one that is more than a value -/
noncomputable def contO (E : Env) (ops : Array Oper) (fr : AF) (cs : List AF) (k : List AI) (o : Oper) (os : List Oper) (i : Nat) (tm : T Value) (rec : T Value → Mem → R St) : Res → R St
  | .val v m => (putT o.dst v fr.nt tm).bnd fun tm => rec tm m
  | r => applyR r E (withT tm (.inRegion ops (o :: os) i :: k) fr) cs
noncomputable def opsL (E : Env) (ops : Array Oper) (fr : AF) (cs : List AF) (k : List AI) : List Oper → Nat → T Value → Mem → R St
  | [], _, tm, m => goOn (withT tm k fr) cs m
  | o :: os, i, tm, m => (wantedL o.guard ops tm).bnd fun b => bif b then (execV o.op E tm m).bnd (contO E ops fr cs k o os i tm (opsL E ops fr cs k os (i + 1)))
    else (putT o.dst (.tuple #[]) fr.nt tm).bnd fun tm => opsL E ops fr cs k os (i + 1) tm m

noncomputable def isReady : LoopState → Bool
  | .ready => true
  | _ => false
noncomputable def isBusy : LoopState → Bool
  | .busy => true
  | _ => false
noncomputable def jumpK : Option Code → List AI
  | some c => [.code c]
  | none => []

noncomputable def to (k : List AI) : AF → List AF → Mem → R St
  | ⟨fn, nt, tm, _, ds, md, kd, ro⟩, cs, m => goOn ⟨fn, nt, tm, k, ds, md, kd, ro⟩ cs m
noncomputable def toO (k : Option (List AI)) (fr : AF) (cs : List AF) (m : Mem) (jump : Code) : R St := match k with
  | some k => to k fr cs m
  | none => leaveF fr cs m (some jump)

noncomputable def stepC (E : Env) (run : AM → R (Value × Mem)) : Code → List AI → AF → List AF → Mem → R St
  | .skip, k, fr, cs, m => to k fr cs m
  | .label _, k, fr, cs, m => to k fr cs m
  | .seq a b, k, fr, cs, m => stepC E run a (.code b :: k) fr cs m
  | .cond c x y, k, fr, cs, m => (condK x y (ev E fr.tmps c)).bnd fun c => to (.code c :: k) fr cs m
  | .block id b, k, fr, cs, m => stepC E run b (.inBlock id :: k) fr cs m
  | .loop b, k, fr, cs, m => to (.code b :: .inLoop b :: k) fr cs m
  | .scope b, k, fr, cs, m => stepC E run b (.inScope b :: k) fr cs m
  | .exit id, k, fr, cs, m => toO (exitToL id k) (withK (.code (.exit id) :: k) fr) cs m (.exit id)
  | .ret, k, fr, cs, m => leaveF (withK (.code .ret :: k) fr) cs m (some .ret)
  | .rangeFunc f ps assign body, k, fr, cs, m => rangeF E f ps assign body k fr cs m
  | .region _ ops false, k, fr, cs, m => opsL E ops fr cs k ops.toList 0 fr.tmps m
  | .region _ ops true, k, fr, cs, m => (drawV E run ops fr.nt fr.tmps m).bnd fun p => goOn (withT p.1 k fr) cs p.2
  | _, _, _, _, _ => .no 140

noncomputable def beginR (k : List AI) (fr : AF) (cs : List AF) (m : Mem) : Option Nat → R St
  | none => .no 141
  | some l => (loopO (m.get l)).bnd fun r => bif isReady r.state then to k fr cs (m.put l (.loop ⟨.busy, r.pending, r.fn, r.tmps, r.params, r.assign, r.body, r.defers⟩)) else .no 142
noncomputable def endR (k : List AI) (l : Nat) (fr : AF) (cs : List AF) (m : Mem) : R St :=
  (loopO (m.get l)).bnd fun r => bif isBusy r.state then .no 143 else to (jumpK r.pending ++ k) fr cs (m.put l (.loop ⟨.exhausted, r.pending, r.fn, r.tmps, r.params, r.assign, r.body, r.defers⟩))

noncomputable def stepI (E : Env) (run : AM → R (Value × Mem)) : List AI → AF → List AF → Mem → R St
  | [], fr, cs, m => leaveF fr cs m none
  | .code c :: k, fr, cs, m => stepC E run c k fr cs m
  | .inBlock _ :: k, fr, cs, m => to k fr cs m
  | .inScope _ :: k, fr, cs, m => to k fr cs m
  | .inLoop b :: k, fr, cs, m => to (.code b :: .inLoop b :: k) fr cs m
  | .inRegion ops os i :: k, fr, cs, m => opsL E ops fr cs k os i fr.tmps m
  | .beginRound :: k, fr, cs, m => beginR k fr cs m fr.roundOf
  | .endRangeFunc l :: k, fr, cs, m => endR k l fr cs m
  | _, _, _, _ => .no 144

noncomputable def isNormal : CallKind → Bool
  | .normal => true
  | _ => false
noncomputable def settleF : AF → R AF
  | ⟨fn, nt, tm, td, ds, .panicking (⟨_, true, false⟩ :: []), kd, ro⟩ => .ok ⟨fn, nt, tm, td, ds, .returning, kd, ro⟩
  | ⟨_, _, _, _, _, .panicking (⟨_, true, _⟩ :: _), _, _⟩ => .no 145
  | fr => .ok fr
noncomputable def backTo (v : Value) (m : Mem) : CallKind → List AF → R St
  | .normal, [] => .ok (.done v m)
  | .normal, c :: rest => goFin c v rest m
  | .deferred, c :: rest => (settleF c).bnd fun c => goOn c rest m
  | _, _ => .no 146
noncomputable def deferO : Option AO → R (List Deferred)
  | some (.deferred (some l)) => .ok l
  | _ => .no 147
noncomputable def toDefer (E : Env) (fr : AF) (cs : List AF) : Res → R St
  | .enter f args m => (enterF E f args .deferred).bnd fun fr' => goOn fr' (fr :: cs) m
  | _ => .no 148
noncomputable def stepD (E : Env) : List Deferred → AF → List AF → Mem → R St
  | ⟨.collected b, _⟩ :: ds, ⟨fn, nt, tm, td, _, md, kd, ro⟩, cs, m => (deferO (m.get b)).bnd fun l => goOn ⟨fn, nt, tm, td, l ++ ds, md, kd, ro⟩ cs (m.put b (.deferred none))
  | ⟨.fn f ⟨cap⟩, ⟨args⟩⟩ :: ds, ⟨fn, nt, tm, td, _, md, kd, ro⟩, cs, m => (invokeV E m f cap args).bnd fun r => toDefer E ⟨fn, nt, tm, td, ds, md, kd, ro⟩ cs r
  | _, _, _, _ => .no 149
noncomputable def unwindL (E : Env) : FrameMode → AF → List AF → Mem → R St
  | .panicking chain, _, c :: rest, m => goOn (raiseF c chain) rest m
  | .returning, fr, cs, m => (need 150 (E.fn fr.fn)).bnd fun fn => (resultsV E m fn fr.tmps).bnd fun v => backTo v m fr.kind cs
  | _, _, _, _ => .no 151

noncomputable def stepU (E : Env) : List Deferred → AF → List AF → Mem → R St
  | [], fr, cs, m => unwindL E fr.mode fr cs m
  | d :: ds, fr, cs, m => stepD E (d :: ds) fr cs m

noncomputable def stepM (E : Env) (run : AM → R (Value × Mem)) : FrameMode → AF → List AF → Mem → R St
  | .run, fr, cs, m => stepI E run fr.todo fr cs m
  | _, fr, cs, m => stepU E fr.defers fr cs m

noncomputable def step (E : Env) (run : AM → R (Value × Mem)) : AM → R St
  | ⟨fr, cs, m⟩ => stepM E run fr.mode fr cs m

noncomputable def contS (f : AM → R (Value × Mem)) : R St → R (Value × Mem)
  | .no n => .no n
  | .ok (.done v m) => .ok (v, m)
  | .ok (.next S) => f S

noncomputable def run (E : Env) (n : Nat) : AM → R (Value × Mem) :=
  Nat.rec (motive := fun _ => AM → R (Value × Mem)) (fun _ => .no 152) (fun _ rec S => contS rec (step E rec S)) n

end Go.Sh
