/- The framework: a translation of the program that is verified in Lean, part 1. No condition. -/
import GoSem.Dispatch
import Derived.Calls
import Derived.Below
import Derived.Laws.Cells
import Derived.Laws.Slices
import Derived.IntWalk
import Derived.Laws.StructEq
import Derived.Laws.BytesString
import Derived.Laws.BitsAllLaws
set_option linter.unusedVariables false
set_option linter.unusedSimpArgs false
namespace Rk
open Go
inductive Ty where
  | int (k : IntKind) | bool | str | lst (t : Ty) | unit | pair (a b : Ty)
  deriving DecidableEq, Repr, Inhabited
def DI : IntKind → Type
  | .u8 => UInt8
  | _ => Int
def Ty.D : Ty → Type
  | .int k => DI k
  | .bool => Bool
  | .str => List UInt8
  | .lst t => List t.D
  | .unit => Unit
  | .pair a b => a.D × b.D
def toI : (k : IntKind) → DI k → Int
  | .u8, x => (UInt8.toNat x : Int)
  | .i8, x => x | .i16, x => x | .i32, x => x | .i64, x => x | .u16, x => x | .u32, x => x | .u64, x => x
def ofI : (k : IntKind) → Int → DI k
  | .u8, x => (UInt8.ofNat x.toNat : UInt8)
  | .i8, x => x | .i16, x => x | .i32, x => x | .i64, x => x | .u16, x => x | .u32, x => x | .u64, x => x
def Ty.dflt : (t : Ty) → t.D
  | .int k => ofI k 0
  | .bool => false
  | .str => []
  | .lst _ => []
  | .unit => ()
  | .pair a b => (a.dflt, b.dflt)
def Ty.n : Ty → Nat
  | .unit => 0
  | .pair a b => a.n + b.n
  | _ => 1
def Ty.isLeaf : Ty → Bool
  | .unit | .pair _ _ => false
  | _ => true
def Ty.flat : Ty → Bool
  | .lst _ => false
  | .pair a b => a.flat && b.flat
  | _ => true
def tree : List Ty → Ty
  | [] => .unit
  | [a] => a
  | a :: r => .pair a (tree r)
structure Dyn where
  t : Ty
  v : t.D
instance : Inhabited Dyn := ⟨⟨.unit, ()⟩⟩
def Dyn.get (d : Dyn) (t : Ty) : t.D := if h : d.t = t then h ▸ d.v else t.dflt
inductive Loc where
  | s (i j : Nat)
  | k (i j : Nat)
  | g (i : Nat)
  deriving DecidableEq, Repr, Inhabited
abbrev Rho := Loc → Dyn
def cmpI (op : BinOp) (x y : Int) : Bool :=
  match op with
  | .eql => x == y
  | .neq => x != y
  | .lss => x < y
  | .leq => x ≤ y
  | .gtr => x > y
  | .geq => x ≥ y
  | _ => false
def cmpS (op : BinOp) (x y : List UInt8) : Bool :=
  match op with
  | .eql => x == y
  | .neq => !(x == y)
  | .lss => Op.bytesLess x y
  | .leq => Op.bytesLess x y || x == y
  | .gtr => !(Op.bytesLess x y || x == y)
  | .geq => !(Op.bytesLess x y)
  | _ => false
def bitsI (op : BinOp) (k : IntKind) (x y : Int) : Int :=
  let a := BitVec.ofInt k.bits x
  let b := BitVec.ofInt k.bits y
  match op with
  | .and => k.wrap (a &&& b).toNat
  | .or => k.wrap (a ||| b).toNat
  | .xor => k.wrap (a ^^^ b).toNat
  | .andNot => k.wrap (a &&& ~~~b).toNat
  | _ => 0
def arI (op : BinOp) (k : IntKind) (x y : Int) : Int :=
  match op with
  | .add => k.wrap (x + y)
  | .sub => k.wrap (x - y)
  | .mul => k.wrap (x * y)
  | .quo => k.wrap (x.tdiv y)
  | .rem => x.tmod y
  | .shl => k.wrap (x * 2 ^ (min y.toNat k.bits))
  | .shr => x.fdiv (2 ^ (min y.toNat k.bits))
  | op => bitsI op k x y
inductive PE where
  | loc (l : Loc)
  | int (n : Int) | bool (b : Bool) | str (s : List UInt8)
  | ar (op : BinOp) (k k2 : IntKind) (a b : PE)
  | cmpI (op : BinOp) (k : IntKind) (a b : PE)
  | cmpS (op : BinOp) (a b : PE)
  | cmpB (neg : Bool) (a b : PE)
  | neg (k : IntKind) (a : PE) | com (k : IntKind) (a : PE) | not (a : PE)
  | conv (src : IntKind) (a : PE)
  | cat (a b : PE) | slen (a : PE) | sidx (a i : PE) | ssub (a lo hi : PE)
  | lnil | llen (t : Ty) (a : PE) | lidx (a i : PE) | lsub (a lo hi : PE) | lapp (a b : PE) | lset (a i v : PE) | one (a : PE)
  | lrep (n a : PE)
  | b2s (a : PE) | s2b (a : PE)
  | fst (u : Ty) (a : PE) | snd (t : Ty) (a : PE) | pair (a b : PE) | unit
  | ite (c a b : PE) | and (a b : PE) | imp (a b : PE)
  | plus (a b : PE) | minus (a b : PE)
  | minI (k : IntKind) (a b : PE) | maxI (k : IntKind) (a b : PE)
  deriving Repr, Inhabited, DecidableEq
def idx {α : Type} (d : α) (l : List α) (i : Int) : α := if i < 0 then d else l.getD i.toNat d
def sub {α : Type} (l : List α) (lo hi : Int) : List α := (l.take hi.toNat).drop lo.toNat
abbrev xorB (a b : Bool) : Bool := a ^^ b
abbrev eqB (a b : Bool) : Bool := a == b
abbrev andB (a b : Bool) : Bool := a && b
abbrev impB (a b : Bool) : Bool := !a || b
abbrev notB (a : Bool) : Bool := !a
abbrev appL {α : Type} (a b : List α) : List α := a ++ b
abbrev iteB {α : Type} (c : Bool) (a b : α) : α := if c then a else b
def onInt (f : (k : IntKind) → DI k) : (t : Ty) → t.D
  | .int k => f k
  | t => t.dflt
def onU8 (x : UInt8) : (t : Ty) → t.D
  | .int .u8 => x
  | t => t.dflt
def onBool (b : Bool) : (t : Ty) → t.D
  | .bool => b
  | t => t.dflt
def onStr (s : List UInt8) : (t : Ty) → t.D
  | .str => s
  | t => t.dflt
def onLst (f : (t : Ty) → List t.D) : (t : Ty) → t.D
  | .lst t => f t
  | t => t.dflt
def onBytes (s : List UInt8) : (t : Ty) → t.D
  | .lst (.int .u8) => s
  | t => t.dflt
def onPair (f : (a b : Ty) → a.D × b.D) : (t : Ty) → t.D
  | .pair a b => f a b
  | t => t.dflt
@[simp] theorem onInt_int (f : (k : IntKind) → DI k) (k : IntKind) : onInt f (.int k) = f k := rfl
@[simp] theorem onU8_u8 (x : UInt8) : onU8 x (.int .u8) = x := rfl
@[simp] theorem onBool_bool (b : Bool) : onBool b .bool = b := rfl
@[simp] theorem onStr_str (s : List UInt8) : onStr s .str = s := rfl
@[simp] theorem onLst_lst (f : (t : Ty) → List t.D) (t : Ty) : onLst f (.lst t) = f t := rfl
@[simp] theorem onBytes_bytes (s : List UInt8) : onBytes s (.lst (.int .u8)) = s := rfl
@[simp] theorem onPair_pair (f : (a b : Ty) → a.D × b.D) (a b : Ty) : onPair f (.pair a b) = f a b := rfl
def PE.ev (ρ : Rho) : PE → (t : Ty) → t.D
  | .loc l => fun t => (ρ l).get t
  | .int n => onInt fun k => ofI k n
  | .bool b => onBool b
  | .str s => onStr s
  | .ar op k k2 a b => onInt fun k' => ofI k' (arI op k (toI k (a.ev ρ (.int k))) (toI k2 (b.ev ρ (.int k2))))
  | .cmpI op k a b => onBool (Rk.cmpI op (toI k (a.ev ρ (.int k))) (toI k (b.ev ρ (.int k))))
  | .cmpS op a b => onBool (Rk.cmpS op (a.ev ρ .str) (b.ev ρ .str))
  | .cmpB n a b => onBool (xorB n (eqB (a.ev ρ .bool) (b.ev ρ .bool)))
  | .neg k a => onInt fun k' => ofI k' (k.wrap (0 - toI k (a.ev ρ (.int k))))
  | .com k a => onInt fun k' => ofI k' (bitsI .xor k (if k.signed then -1 else k.max) (toI k (a.ev ρ (.int k))))
  | .not a => onBool (notB (a.ev ρ .bool))
  | .conv s a => onInt fun k => ofI k (k.wrap (toI s (a.ev ρ (.int s))))
  | .cat a b => onStr (appL (α := UInt8) (a.ev ρ .str) (b.ev ρ .str))
  | .slen a => onInt fun k => ofI k (List.length (α := UInt8) (a.ev ρ .str) : Nat)
  | .sidx a i => onU8 (idx (0 : UInt8) (a.ev ρ .str) (toI .i64 (i.ev ρ (.int .i64))))
  | .ssub a lo hi => onStr (sub (α := UInt8) (a.ev ρ .str) (toI .i64 (lo.ev ρ (.int .i64))) (toI .i64 (hi.ev ρ (.int .i64))))
  | .lnil => onLst fun _ => []
  | .llen t a => onInt fun k => ofI k (List.length (α := t.D) (a.ev ρ (.lst t)) : Nat)
  | .lidx a i => fun t => idx t.dflt (a.ev ρ (.lst t)) (toI .i64 (i.ev ρ (.int .i64)))
  | .lsub a lo hi => onLst fun t => sub (α := t.D) (a.ev ρ (.lst t)) (toI .i64 (lo.ev ρ (.int .i64))) (toI .i64 (hi.ev ρ (.int .i64)))
  | .lapp a b => onLst fun t => appL (α := t.D) (a.ev ρ (.lst t)) (b.ev ρ (.lst t))
  | .lset a i v => onLst fun t => List.set (α := t.D) (a.ev ρ (.lst t)) (toI .i64 (i.ev ρ (.int .i64))).toNat (v.ev ρ t)
  | .one a => onLst fun t => [a.ev ρ t]
  | .lrep n a => onLst fun t => List.replicate (toI .i64 (n.ev ρ (.int .i64))).toNat (a.ev ρ t)
  | .b2s a => onStr (a.ev ρ (.lst (.int .u8)))
  | .s2b a => onBytes (a.ev ρ .str)
  | .fst u a => fun t => (a.ev ρ (.pair t u)).1
  | .snd u a => fun t => (a.ev ρ (.pair u t)).2
  | .pair a b => onPair fun t u => (a.ev ρ t, b.ev ρ u)
  | .unit => fun t => t.dflt
  | .ite c a b => fun t => iteB (c.ev ρ .bool) (a.ev ρ t) (b.ev ρ t)
  | .and a b => onBool (andB (a.ev ρ .bool) (b.ev ρ .bool))
  | .imp a b => onBool (impB (a.ev ρ .bool) (b.ev ρ .bool))
  | .plus a b => onInt fun k => ofI k (toI .i64 (a.ev ρ (.int .i64)) + toI .i64 (b.ev ρ (.int .i64)))
  | .minus a b => onInt fun k => ofI k (toI .i64 (a.ev ρ (.int .i64)) - toI .i64 (b.ev ρ (.int .i64)))
  | .minI k a b => onInt fun k' => ofI k' (if toI k (b.ev ρ (.int k)) < toI k (a.ev ρ (.int k)) then toI k (b.ev ρ (.int k)) else toI k (a.ev ρ (.int k)))
  | .maxI k a b => onInt fun k' => ofI k' (if toI k (b.ev ρ (.int k)) > toI k (a.ev ρ (.int k)) then toI k (b.ev ρ (.int k)) else toI k (a.ev ρ (.int k)))
def PE.evB (ρ : Rho) (e : PE) : Bool := e.ev ρ .bool
def PE.evI (ρ : Rho) (e : PE) : Int := toI .i64 (e.ev ρ (.int .i64))
inductive Tab (α : Type) where
  | nil
  | node (l r : Tab α) (v : Option α)
  deriving Repr, Inhabited
def Tab.getF {α : Type} : Nat → Tab α → Nat → Option α
  | 0, _, _ => none
  | _ + 1, .nil, _ => none
  | _ + 1, .node _ _ v, 0 => v
  | f + 1, .node l r _, i + 1 => if i % 2 == 0 then l.getF f (i / 2) else r.getF f (i / 2)
def Tab.setF {α : Type} : Nat → Tab α → Nat → Option α → Tab α
  | 0, t, _, _ => t
  | _ + 1, .nil, 0, x => .node .nil .nil x
  | _ + 1, .node l r _, 0, x => .node l r x
  | f + 1, .nil, i + 1, x => if i % 2 == 0 then .node (Tab.setF f .nil (i / 2) x) .nil none else .node .nil (Tab.setF f .nil (i / 2) x) none
  | f + 1, .node l r v, i + 1, x => if i % 2 == 0 then .node (l.setF f (i / 2) x) r v else .node l (r.setF f (i / 2) x) v
theorem Tab.get_set {α : Type} : ∀ (f : Nat) (t : Tab α) (i j : Nat) (x : Option α), i + 1 < 2 ^ f → (t.setF f i x).getF f j = if j = i then x else t.getF f j
  | 0, t, i, j, x, h => by simp at h
  | f + 1, .nil, 0, j, x, h => by
    cases j with
    | zero => simp [Tab.setF, Tab.getF]
    | succ j => cases f <;> simp [Tab.setF, Tab.getF]
  | f + 1, .node l r v, 0, j, x, h => by
    cases j with
    | zero => simp [Tab.setF, Tab.getF]
    | succ j => simp [Tab.setF, Tab.getF]
  | f + 1, .nil, i + 1, j, x, h => by
    have hi : i / 2 + 1 < 2 ^ f := by rw [Nat.pow_succ] at h; omega
    have ih := Tab.get_set (α := α) f .nil (i / 2)
    have h0 : ∀ q, (Tab.nil : Tab α).getF f q = none := by intro q; cases f <;> rfl
    cases j with
    | zero => simp only [Tab.setF]; split <;> simp [Tab.getF]
    | succ j =>
      simp only [Tab.setF]
      by_cases hp : i % 2 = 0 <;> by_cases hq : j % 2 = 0 <;> simp [hp, hq, Tab.getF, ih _ _ hi, h0]
      · by_cases e : j / 2 = i / 2
        · have : j = i := by omega
          simp [e, this]
        · have : j ≠ i := by omega
          simp [e, this]
      · intro e; omega
      · intro e; omega
      · by_cases e : j / 2 = i / 2
        · have : j = i := by omega
          simp [e, this]
        · have : j ≠ i := by omega
          simp [e, this]
  | f + 1, .node l r v, i + 1, j, x, h => by
    have hi : i / 2 + 1 < 2 ^ f := by rw [Nat.pow_succ] at h; omega
    have ihl := Tab.get_set f l (i / 2)
    have ihr := Tab.get_set f r (i / 2)
    cases j with
    | zero => simp only [Tab.setF]; split <;> simp [Tab.getF]
    | succ j =>
      simp only [Tab.setF]
      by_cases hp : i % 2 = 0 <;> by_cases hq : j % 2 = 0 <;> simp [hp, hq, Tab.getF, ihl _ _ hi, ihr _ _ hi]
      · by_cases e : j / 2 = i / 2
        · have : j = i := by omega
          simp [e, this]
        · have : j ≠ i := by omega
          simp [e, this]
      · intro e; omega
      · intro e; omega
      · by_cases e : j / 2 = i / 2
        · have : j = i := by omega
          simp [e, this]
        · have : j ≠ i := by omega
          simp [e, this]
def Tab.map {α : Type} (g : α → α) : Tab α → Tab α
  | .nil => .nil
  | .node l r v => .node (l.map g) (r.map g) (match v with | some x => some (g x) | none => none)
theorem Tab.get_map {α : Type} (g : α → α) : ∀ (f : Nat) (t : Tab α) (i : Nat), (t.map g).getF f i = (t.getF f i).map g
  | 0, t, i => rfl
  | f + 1, .nil, i => by cases i <;> rfl
  | f + 1, .node l r v, 0 => by cases v <;> rfl
  | f + 1, .node l r v, i + 1 => by
    simp only [Tab.map, Tab.getF]
    split
    · exact Tab.get_map g f l (i / 2)
    · exact Tab.get_map g f r (i / 2)
def Tab.get {α : Type} (t : Tab α) (i : Nat) : Option α := t.getF 40 i
def Tab.set {α : Type} (t : Tab α) (i : Nat) (x : α) : Tab α := t.setF 40 i (some x)
inductive Sh where
  | dyn (t : Ty)
  | nil
  | nilp
  | full (κ : Nat)
  | pre (κ : Nat)
  | view (κ : Nat)
  | cap (t : Ty)
  | ptr (κ j : Nat)
  | arr (κ : Nat)
  | ept (κ j : Nat)
  | ipt (t : Ty) (j : Nat)
  | gone
  deriving DecidableEq, Repr, Inhabited
inductive KSh where
  | row (t : Ty)
  | arr (t : Ty) (n : Nat)
  | imm (t : Ty)
  | box (cs : List Sh)
  | gone
  deriving DecidableEq, Repr, Inhabited
structure Val where
  agg : Bool
  cs : List Sh
  deriving DecidableEq, Repr, Inhabited
inductive SK where
  | dead
  | val (v : Val)
  | tup (vs : List Val)
  | clo (f : FuncId) (nf : Nat) (vs : List Val)
  deriving DecidableEq, Repr, Inhabited
structure Slot where
  cond : List (Nat × Bool)
  k : SK
  deriving DecidableEq, Repr, Inhabited
end Rk
set_option linter.unusedVariables false
namespace Rk
open Go
abbrev Cond := List (Nat × Bool)
abbrev CE := Sh × PE
structure Sig where
  ins : List SK
  iks : List KSh
  outs : List Val
  oks : List KSh
  deriving DecidableEq, Repr, Inhabited
structure CallE where
  cond : List PE
  f : FuncId
  i : Nat
  args : List (Ty × PE)
  outs : List (Loc × Ty)
  deriving Repr, Inhabited
structure Eff where
  chk : List PE := []
  sets : List (Loc × Ty × PE) := []
  call : Option CallE := none
  sl : List (Nat × Slot) := []
  ks : List (Nat × KSh) := []
  deriving Repr, Inhabited
structure Acc where
  sl : Nat → Slot
  ks : Nat → Option KSh
structure Env where
  P : Program
  sig : FuncId → List Sig
  tab : Nat → Option (Ty × Nat)
def leavesF (g : TypeId → Option (List Ty)) : Nat → List Field → Option (List Ty)
  | _, [] => some []
  | n, x :: r =>
    if x.offset == n then do
      let l ← g x.type
      let q ← leavesF g (n + l.length) r
      some (l ++ q)
    else none
def leaves (P : Program) : Nat → TypeId → Option (List Ty)
  | 0, _ => none
  | f + 1, t =>
    match P.underlying t with
    | some (.int k) => some [.int k]
    | some .bool => some [.bool]
    | some .string => some [.str]
    | some (.slice e) => do let l ← leaves P f e; some [.lst (tree l)]
    | some (.struct fs) => leavesF (leaves P f) 0 fs.toList
    | some (.array n e) => do let l ← leaves P f e; some (List.replicate n l).flatten
    | _ => none
def lvs (P : Program) (t : TypeId) : Option (List Ty) := do
  let l ← leaves P 20 t
  let i ← P.info? t
  if i.size == l.length && l.all Ty.isLeaf then some l else none
def sizeT (P : Program) (t : TypeId) : Option Nat := do some (← P.info? t).size
def isAggT (P : Program) (t : TypeId) : Option Bool := do
  match ← P.underlying t with
  | .struct _ | .array _ _ => some true
  | _ => some false
def constC : Value → Option CE
  | .int k n => if k == .u8 && !(0 ≤ n && n < 256) then none else some (.dyn (.int k), .int n)
  | .bool b => some (.dyn .bool, .bool b)
  | .string s => some (.dyn .str, .str s.data.toList)
  | .slice none 0 0 => some (.nil, .unit)
  | .pointer none => some (.nilp, .unit)
  | .nilFunc => some (.gone, .unit)
  | .map none => some (.gone, .unit)
  | _ => none
def constV : Value → Option (Bool × List CE)
  | .agg cs => do some (true, ← cs.toList.mapM constC)
  | v => do some (false, [← constC v])
def zeroCs (P : Program) (t : TypeId) : Option (Bool × List CE) := do
  constV (← (← P.info? t).zero)
inductive OpV where
  | val (agg : Bool) (cs : List CE)
  | tup (vs : List (Bool × List CE))
  | clo (f : FuncId) (nf : Nat) (vs : List (Bool × List CE))
  deriving Repr, Inhabited
def Sh.ty : Sh → Option Ty
  | .dyn t => some t
  | .cap t => some (.lst t)
  | .pre _ => some (.int .i64)
  | .view _ => some (.pair (.int .i64) (.int .i64))
  | .ept _ _ => some (.int .i64)
  | .ipt t _ => some t
  | _ => none
def cellsAt (mk : Nat → Loc) : Nat → List Sh → List CE
  | _, [] => []
  | j, c :: r => (c, .loc (mk j)) :: cellsAt mk (j + 1) r
def valsAt (mk : Nat → Loc) : Nat → List Val → List (Bool × List CE)
  | _, [] => []
  | j, v :: r => (v.agg, cellsAt mk j v.cs) :: valsAt mk (j + v.cs.length) r
def subCond (a b : Cond) : Bool := a.all fun x => b.contains x
def skV (t : Nat) : SK → Option OpV
  | .dead => none
  | .val v => some (.val v.agg (cellsAt (.s t) 0 v.cs))
  | .tup vs => some (.tup (valsAt (.s t) 0 vs))
  | .clo f nf vs => some (.clo f nf (valsAt (.s t) 0 vs))
def opTmp (A : Acc) (cond : Cond) (t : Nat) : Option OpV :=
  if subCond (A.sl t).cond cond then skV t (A.sl t).k else none
def opV (A : Acc) (cond : Cond) : Operand → Option OpV
  | .tmp t => opTmp A cond t
  | .const v => do let (g, cs) ← constV v; some (.val g cs)
  | .func f => some (.clo f 0 [])
  | .global _ => none
def opC (A : Acc) (cond : Cond) (x : Operand) : Option (Bool × List CE) := do
  match ← opV A cond x with
  | .val g cs => some (g, cs)
  | _ => none
def op1 (A : Acc) (cond : Cond) (x : Operand) : Option CE := do
  match ← opV A cond x with
  | .val false [c] => some c
  | _ => none
def opT (A : Acc) (cond : Cond) (x : Operand) (t : Ty) : Option PE := do
  match ← op1 A cond x with
  | (.dyn u, e) => if u == t then some e else none
  | _ => none
def opI (A : Acc) (cond : Cond) (x : Operand) : Option (IntKind × PE) := do
  match ← op1 A cond x with
  | (.dyn (.int k), e) => some (k, e)
  | _ => none
abbrev Frz := List (Nat × KSh)
def readL (A : Acc) : CE → Option (Ty × PE)
  | (.dyn (.lst t), e) => some (t, e)
  | (.cap t, e) => some (t, e)
  | (.full κ, _) => do match ← A.ks κ with | .row t | .imm t => some (t, .loc (.k κ 0)) | _ => none
  | (.pre κ, e) => do match ← A.ks κ with | .row t | .imm t => some (t, .lsub (.loc (.k κ 0)) (.int 0) e) | _ => none
  | (.view κ, e) => do match ← A.ks κ with
    | .row t | .imm t => some (t, .lsub (.loc (.k κ 0)) (.fst (.int .i64) e) (.plus (.fst (.int .i64) e) (.snd (.int .i64) e)))
    | _ => none
  | _ => none
def rowK (A : Acc) : Sh → Option Nat
  | .full κ | .pre κ | .view κ => match A.ks κ with | some (.row _) => some κ | _ => none
  | _ => none
def frz (A : Acc) : Sh → Frz
  | .full κ | .pre κ | .view κ => match A.ks κ with | some (.row t) => [(κ, .imm t)] | _ => []
  | _ => []
def asT (A : Acc) (c : CE) (t : Ty) : Option (PE × Frz) :=
  match c.1, t with
  | .dyn u, t => if u == t then some (c.2, []) else none
  | .nil, .lst _ => some (.lnil, [])
  | _, .lst u => do
    let (v, e) ← readL A c
    if v == u then some (e, frz A c.1) else none
  | _, _ => none
def asTs (A : Acc) : List CE → List Ty → Option (List PE × Frz)
  | [], [] => some ([], [])
  | c :: cs, t :: ts => do
    let (e, f) ← asT A c t
    let (es, g) ← asTs A cs ts
    some (e :: es, f ++ g)
  | _, _ => none
def listE (es : List PE) : PE := es.foldr (fun e r => .lapp (.one e) r) .lnil
def treeE : List PE → PE
  | [] => .unit
  | [a] => a
  | a :: r => .pair a (treeE r)
def leafE : List Ty → Nat → PE → PE
  | [], _, e => e
  | [_], _, e => e
  | _ :: r, 0, e => .fst (tree r) e
  | t :: r, j + 1, e => leafE r j (.snd t e)
def Ty.lv : Ty → List Ty
  | .pair a b => a :: b.lv
  | .unit => []
  | t => [t]
def condE (A : Acc) (c : Cond) : List PE := c.map fun (g, w) => if w then .loc (.s g 0) else .not (.loc (.s g 0))
def andE : List PE → PE
  | [] => .bool true
  | [a] => a
  | a :: r => .and a (andE r)
def under (A : Acc) (cond : Cond) (e : PE) : PE := if cond.isEmpty then e else .imp (andE (condE A cond)) e
def setCs (mk : Nat → Loc) : Nat → List CE → List (Loc × Ty × PE)
  | _, [] => []
  | j, c :: r =>
    match c.1.ty with
    | some t => (mk j, t, c.2) :: setCs mk (j + 1) r
    | none => setCs mk (j + 1) r
def setVs (mk : Nat → Loc) : Nat → List (Bool × List CE) → List (Loc × Ty × PE)
  | _, [] => []
  | j, v :: r => setCs mk j v.2 ++ setVs mk (j + v.2.length) r
def valOf (v : Bool × List CE) : Val := ⟨v.1, v.2.map (·.1)⟩
def putV (cond : Cond) (d : Option Tmp) (v : OpV) : Eff :=
  match d with
  | none => {}
  | some d =>
    match v with
    | .val g cs => { sl := [(d, ⟨cond, .val (valOf (g, cs))⟩)], sets := setCs (.s d) 0 cs }
    | .tup vs => { sl := [(d, ⟨cond, .tup (vs.map valOf)⟩)], sets := setVs (.s d) 0 vs }
    | .clo f nf vs => { sl := [(d, ⟨cond, .clo f nf (vs.map valOf)⟩)], sets := setVs (.s d) 0 vs }
def put1 (cond : Cond) (d : Option Tmp) (c : CE) : Eff := putV cond d (.val false [c])
def later {α : Type} (x : Option α) : Option α := none
def newK (A : Acc) (cond : Cond) (d : Option Tmp) (k : KSh) (content : List (Loc × Ty × PE)) (sh : Nat → Sh) (fz : Frz) (chk : List PE) : Option Eff := do
  let d ← d
  match A.ks d with
  | some _ => none
  | none =>
    if cond.isEmpty then some { chk, sl := [(d, ⟨[], .val ⟨false, [sh d]⟩⟩)], ks := fz ++ [(d, k)], sets := content }
    else match k with
      | .row u => some { chk, sl := [(d, ⟨cond, .val ⟨false, [sh d]⟩⟩)], ks := fz ++ [(d, k)], sets := content.map fun x => (x.1, x.2.1, .ite (andE (condE A cond)) x.2.2 .lnil) }
      | _ => none
def le (a b : PE) : PE := .cmpI .leq .i64 a b
def lt (a b : PE) : PE := .cmpI .lss .i64 a b
def most : Int := 2 ^ 46
def bytesT (P : Program) (t : TypeId) : Option Nat := do some (← P.info? t).bytes
def room (t : Ty) (bytes : Nat) (e : PE) : PE := le (.llen t e) (.int (most / bytes))
def leafCs (l : List Ty) (e : PE) : Nat → Nat → List CE
  | _, 0 => []
  | j, n + 1 => (.dyn (l.getD j .unit), leafE l j e) :: leafCs l e (j + 1) n
def arrCs (u : Ty) (e : PE) : Nat → Nat → List CE
  | _, 0 => []
  | i, n + 1 => (.dyn u, .lidx e (.int (i : Int))) :: arrCs u e (i + 1) n
def stLoad (E : Env) (A : Acc) (cond : Cond) (d : Option Tmp) (t : TypeId) (c : CE) : Option Eff := do
  let g ← isAggT E.P t
  let n ← sizeT E.P t
  match c with
  | (.ptr κ j, _) =>
    match ← A.ks κ with
    | .box cs =>
      if j + n ≤ cs.length && (g || n == 1) then some (putV cond d (.val g (cellsAt (.k κ) j ((cs.drop j).take n)))) else none
    | _ => none
  | (.arr κ, _) =>
    match ← A.ks κ with
    | .arr u m => if g && n == m && u.isLeaf then some (putV cond d (.val g (arrCs u (.loc (.k κ 0)) 0 m))) else none
    | _ => none
  | (.ept κ j, e) =>
    match ← A.ks κ with
    | .row u | .imm u | .arr u _ =>
      let l := u.lv
      if tree l == u && l.all Ty.isLeaf && j + n ≤ l.length && (g || n == 1) then
        some (putV cond d (.val g (leafCs l (.lidx (.loc (.k κ 0)) e) j n)))
      else none
    | _ => none
  | (.ipt u j, e) =>
    let l := u.lv
    if tree l == u && l.all Ty.isLeaf && j + n ≤ l.length && (g || n == 1) then
      some (putV cond d (.val g (leafCs l e j n)))
    else none
  | _ => none
def stEpt (A : Acc) (κ : Nat) (k : KSh) (u : Ty) (j n : Nat) (e : PE) (cs : List CE) : Option Eff := do
  let l := u.lv
  if tree l == u && l.all Ty.isLeaf && j + n ≤ l.length then do
    let (es, fz) ← asTs A cs ((l.drop j).take n)
    if fz.any (fun x => x.1 == κ) then none else
    let old := (leafCs l (.lidx (.loc (.k κ 0)) e) 0 l.length).map (·.2)
    some { ks := fz ++ [(κ, k)], sets := [(.k κ 0, .lst u, .lset (.loc (.k κ 0)) e (treeE (old.take j ++ es ++ old.drop (j + n))))] }
  else none
def stStore (E : Env) (A : Acc) (cond : Cond) (d : Option Tmp) (t : TypeId) (c : CE) (v : Bool × List CE) : Option Eff := do
  let n ← sizeT E.P t
  if v.2.length != n || !cond.isEmpty || d.isSome then none else
  match c with
  | (.ptr κ j, _) =>
    match ← A.ks κ with
    | .box cs =>
      if j + n ≤ cs.length then
        some { ks := [(κ, .box (cs.take j ++ v.2.map (·.1) ++ cs.drop (j + n)))], sets := setCs (.k κ) j v.2 }
      else none
    | _ => none
  | (.arr κ, _) => do
    match ← A.ks κ with
    | .arr u m =>
      if n == m && u.isLeaf then do
        match ← asTs A v.2 (List.replicate m u) with
        | (es, []) => some { ks := [(κ, .arr u m)], sets := [(.k κ 0, .lst u, listE es)] }
        | _ => none
      else none
    | _ => none
  | (.ept κ j, e) => do
    match ← A.ks κ with
    | .row u => stEpt A κ (.row u) u j n e v.2
    | .arr u m => stEpt A κ (.arr u m) u j n e v.2
    | _ => none
  | _ => none
def fieldOff (P : Program) (t : TypeId) (f : Nat) : Option (Nat × TypeId) := do
  match ← P.underlying t with
  | .struct fs => do let x ← fs[f]?; some (x.offset, x.type)
  | _ => none
def shift (c : CE) (o : Nat) : Option CE :=
  match c with
  | (.ptr κ j, e) => some (.ptr κ (j + o), e)
  | (.ept κ j, e) => some (.ept κ (j + o), e)
  | (.ipt t j, e) => some (.ipt t (j + o), e)
  | _ => none
def liveC (A : Acc) (c : CE) : Option CE :=
  match c.1 with
  | .ptr κ _ => match A.ks κ with | some (.box _) => some c | _ => none
  | .arr κ => match A.ks κ with | some (.arr _ _) => some c | _ => none
  | .ept κ _ => match A.ks κ with | some (.row _) | some (.imm _) | some (.arr _ _) => some c | _ => none
  | .ipt _ _ => some c
  | _ => none
def inB (i n : PE) : PE := .and (le (.int 0) i) (lt i n)
def opX (A : Acc) (cond : Cond) (x : Operand) : Option PE := do
  match ← opI A cond x with
  | (.i64, e) => some e
  | (.u8, e) => some (.conv .u8 e)
  | _ => none
def stIndexAddr (E : Env) (A : Acc) (cond : Cond) (d : Option Tmp) (t : TypeId) (x ix : Operand) : Option Eff := do
  let i ← opX A cond ix
  match ← E.P.underlying t, x with
  | .array n e, .global g => do
    let (u, m) ← E.tab g
    let l ← lvs E.P e
    if n == m && tree l == u then
      some { put1 cond d (.ipt u 0, .lidx (.loc (.g g)) i) with chk := [under A cond (inB i (.int n))] }
    else none
  | .array n e, x => do
    let c ← op1 A cond x
    let sz ← sizeT E.P e
    match c with
    | (.arr κ, _) =>
      match ← A.ks κ with
      | .arr u m => if n == m && sz == u.n then some { put1 cond d (.ept κ 0, i) with chk := [under A cond (inB i (.int n))] } else none
      | _ => none
    | (.ptr κ j, _) =>
      match ← A.ks κ, ix with
      | .box _, .const (.int _ z) => if 0 ≤ z && z < n then some (put1 cond d (.ptr κ (j + z.toNat * sz), .unit)) else none
      | _, _ => none
    | _ => none
  | .slice e, x => do
    let c ← op1 A cond x
    let l ← lvs E.P e
    match c with
    | (.nil, _) => some { put1 cond d (.ipt (tree l) 0, .lidx .lnil i) with chk := [under A cond (.bool false)] }
    | _ =>
    let (u, r) ← readL A c
    if tree l != u then none else
    let chk := [under A cond (inB i (.llen u r))]
    match rowK A c.1 with
    | none => some { put1 cond d (.ipt u 0, .lidx r i) with chk }
    | some κ => match c.1 with
      | .view _ => some { put1 cond d (.ept κ 0, .plus (.fst (.int .i64) c.2) i) with chk }
      | _ => some { put1 cond d (.ept κ 0, i) with chk }
  | _, _ => none
def optX (A : Acc) (cond : Cond) (dflt : PE) : Option Operand → Option PE
  | none => some dflt
  | some x => opX A cond x
def isZero : Option Operand → Bool
  | none => true
  | some (.const (.int _ 0)) => true
  | _ => false
def stSlice (E : Env) (A : Acc) (cond : Cond) (d : Option Tmp) (t : TypeId) (x : Operand) (lo hi mx : Option Operand) : Option Eff := do
  match ← E.P.underlying t with
  | .string => do
    if mx.isSome then none else
    let e ← opT A cond x .str
    let l ← optX A cond (.int 0) lo
    let h ← optX A cond (.slen e) hi
    some { put1 cond d (.dyn .str, .ssub e l h) with chk := [under A cond (.and (le (.int 0) l) (.and (le l h) (le h (.slen e))))] }
  | .slice e => do
    let c ← op1 A cond x
    let lv ← lvs E.P e
    let l ← optX A cond (.int 0) lo
    match c with
    | (.nil, _) => do
      let h ← optX A cond (.int 0) hi
      if mx.isSome then none else
      some { put1 cond d (.nil, .unit) with chk := [under A cond (.and (.cmpI .eql .i64 l (.int 0)) (.cmpI .eql .i64 h (.int 0)))] }
    | _ =>
    let (u, r) ← readL A c
    if tree lv != u then none else
    let h ← optX A cond (.llen u r) hi
    let chk := [under A cond (.and (le (.int 0) l) (.and (le l h) (le h (.llen u r))))]
    match mx with
    | some m => do
      if hi.isNone then none else
      let k ← opX A cond m
      some { put1 cond d (.cap u, .lsub r l h) with chk := under A cond (.cmpI .eql .i64 k h) :: chk, ks := frz A c.1 }
    | none =>
      match rowK A c.1 with
      | none => some { put1 cond d (.dyn (.lst u), .lsub r l h) with chk }
      | some κ => match c.1 with
        | .view _ => some { put1 cond d (.view κ, .pair (.plus (.fst (.int .i64) c.2) l) (.minus h l)) with chk }
        | _ => if isZero lo then some { put1 cond d (.pre κ, h) with chk } else some { put1 cond d (.view κ, .pair l (.minus h l)) with chk }
  | _ => none
def eqLeaf (d : TypeDesc) (a b : CE) : Option PE :=
  match d, a, b with
  | .int _, (.dyn (.int k), x), (.dyn (.int k2), y) => if k == k2 then some (.cmpI .eql k x y) else none
  | .bool, (.dyn .bool, x), (.dyn .bool, y) => some (.cmpB false x y)
  | .string, (.dyn .str, x), (.dyn .str, y) => some (.cmpS .eql x y)
  | _, _, _ => none
def eqF (P : Program) (g : TypeId → List CE → List CE → Option (List PE)) (xs ys : List CE) : List Field → Option (List PE)
  | [] => some []
  | f :: fs => do
    let n ← sizeT P f.type
    let b ← isAggT P f.type
    if f.name == "_" || !(b || n == 1) then none else
    if f.offset + n ≤ xs.length && f.offset + n ≤ ys.length then do
      let l ← g f.type ((xs.drop f.offset).take n) ((ys.drop f.offset).take n)
      let r ← eqF P g xs ys fs
      some (l ++ r)
    else none
def eqT (P : Program) : Nat → TypeId → List CE → List CE → Option (List PE)
  | 0, _, _, _ => none
  | d + 1, t, xs, ys => do
    match ← P.underlying t with
    | .struct fs => if P.stoodInHeld t then none else eqF P (eqT P d) xs ys fs.toList
    | dd => match xs, ys with | [a], [b] => do some [← eqLeaf dd a b] | _, _ => none
def stEqAgg (E : Env) (cond : Cond) (d : Option Tmp) (op : BinOp) (t : TypeId) (xs ys : List CE) : Option Eff := do
  match ← E.P.underlying t with
  | .struct _ => do
    if E.P.eqGuardType E.P.depth t then none else
    let es ← eqT E.P 20 t xs ys
    match op with
    | .eql => some (put1 cond d (.dyn .bool, andE es))
    | .neq => some (put1 cond d (.dyn .bool, .not (andE es)))
    | _ => none
  | _ => none
def isCmp : BinOp → Bool
  | .eql | .neq | .lss | .leq | .gtr | .geq => true
  | _ => false
def stBin (E : Env) (A : Acc) (cond : Cond) (d : Option Tmp) (op : BinOp) (t : TypeId) (x y : Operand) : Option Eff := do
  let (g, xs) ← opC A cond x
  let (h, ys) ← opC A cond y
  if g && h then stEqAgg E cond d op t xs ys else
  if g || h then none else
  match xs, ys with
  | [(.ptr κ j, p)], [(.nilp, _)] => do
    let _ ← liveC A (.ptr κ j, p)
    match ← E.P.underlying t, op with
    | .pointer _, .eql => some (put1 cond d (.dyn .bool, .bool false))
    | .pointer _, .neq => some (put1 cond d (.dyn .bool, .bool true))
    | _, _ => none
  | [(.nilp, _)], [(.nilp, _)] => do
    match ← E.P.underlying t, op with
    | .pointer _, .eql => some (put1 cond d (.dyn .bool, .bool true))
    | .pointer _, .neq => some (put1 cond d (.dyn .bool, .bool false))
    | _, _ => none
  | [(.dyn (.int k), a)], [(.dyn (.int k2), b)] =>
    match op with
    | .shl | .shr =>
      some { put1 cond d (.dyn (.int k), .ar op k k2 a b) with chk := [under A cond (.cmpI .geq k2 b (.int 0))] }
    | .quo | .rem =>
      if k != k2 then none else
      some { put1 cond d (.dyn (.int k), .ar op k k2 a b) with chk := [under A cond (.cmpI .neq k2 b (.int 0))] }
    | _ =>
      if k != k2 then none else
      if isCmp op then some (put1 cond d (.dyn .bool, .cmpI op k a b))
      else some (put1 cond d (.dyn (.int k), .ar op k k2 a b))
  | [(.dyn .str, a)], [(.dyn .str, b)] =>
    if isCmp op then some (put1 cond d (.dyn .bool, .cmpS op a b))
    else if op == .add then some { put1 cond d (.dyn .str, .cat a b) with chk := [under A cond (le (.slen (.cat a b)) (.int most))] }
    else none
  | [(.dyn .bool, a)], [(.dyn .bool, b)] => do
    match ← E.P.underlying t, op with
    | .bool, .eql => some (put1 cond d (.dyn .bool, .cmpB false a b))
    | .bool, .neq => some (put1 cond d (.dyn .bool, .cmpB true a b))
    | _, _ => none
  | _, _ => none
def stUn (cond : Cond) (d : Option Tmp) (op : UnOp) (c : CE) : Option Eff :=
  match op, c with
  | .not, (.dyn .bool, e) => some (put1 cond d (.dyn .bool, .not e))
  | .neg, (.dyn (.int k), e) => some (put1 cond d (.dyn (.int k), .neg k e))
  | .xor, (.dyn (.int k), e) => some (put1 cond d (.dyn (.int k), .com k e))
  | _, _ => none
def stConv (E : Env) (A : Acc) (cond : Cond) (d : Option Tmp) (src dst : TypeId) (x : Operand) : Option Eff := do
  let c ← op1 A cond x
  match ← E.P.underlying src, ← E.P.underlying dst, c with
  | _, .int k, (.dyn (.int s), e) => some (put1 cond d (.dyn (.int k), .conv s e))
  | _, .string, (.dyn .str, e) => some (put1 cond d (.dyn .str, e))
  | .slice el, .string, c => do
    match ← E.P.underlying el with
    | .int .u8 =>
      match c with
      | (.nil, _) => some (put1 cond d (.dyn .str, .str []))
      | _ => do
        let (u, r) ← readL A c
        if u == .int .u8 then some (put1 cond d (.dyn .str, .b2s r)) else none
    | _ => none
  | _, _, _ => none
def stS2b (E : Env) (A : Acc) (cond : Cond) (d : Option Tmp) (src dst : TypeId) (x : Operand) : Option Eff := do
  match ← E.P.underlying src, ← E.P.underlying dst with
  | .string, .slice el => do
    match ← E.P.underlying el with
    | .int .u8 => do
      let e ← opT A cond x .str
      newK A cond d (.row (.int .u8)) [(.k (d.getD 0) 0, .lst (.int .u8), .s2b e)] .full [] []
    | _ => none
  | _, _ => none
def stB2b (E : Env) (A : Acc) (cond : Cond) (d : Option Tmp) (src dst : TypeId) (x : Operand) : Option Eff := do
  if !cond.isEmpty || src != dst then none else
  match ← E.P.underlying src with
  | .slice el => do
    match ← E.P.underlying el with
    | .int .u8 => do
      match ← op1 A cond x with
      | (.full κ, e) => do
        match ← A.ks κ with
        | .row u =>
          if u == .int .u8 then some { put1 cond d (.full κ, e) with ks := [(κ, .row (.int .u8))], chk := [lt (.int 0) (.llen (.int .u8) (.loc (.k κ 0)))] } else none
        | _ => none
      | _ => none
    | _ => none
  | _ => none
def appSrc (A : Acc) (u : Ty) : CE → Option PE
  | (.dyn .str, e) => if u == .int .u8 then some (.s2b e) else none
  | (.nil, _) => some .lnil
  | z => do let (v, r) ← readL A z; if v == u then some r else none
def appDst (A : Acc) (u : Ty) (a : CE) : Option (PE × Nat) := do
  let (v, l) ← readL A a
  let κ ← rowK A a.1
  match a.1 with
  | .view _ => none
  | _ => if v == u then some (l, κ) else none
def isIntD : TypeDesc → Bool
  | .slice _ | .string => false
  | _ => true
def stAppend (E : Env) (A : Acc) (cond : Cond) (d : Option Tmp) (t t2 : TypeId) (x y : Operand) : Option Eff := do
  if !cond.isEmpty then none else
  match ← E.P.underlying t with
  | .slice el => do
    let lv ← lvs E.P el
    let b ← bytesT E.P el
    let (_, zs) ← zeroCs E.P el
    let u := tree lv
    let a ← op1 A cond x
    let z ← op1 A cond y
    let d2 ← E.P.underlying t2
    if isIntD d2 || zs.length != lv.length then none else
    let r ← appSrc A u z
    match a with
    | (.nil, _) => newK A cond d (.row u) [(.k (d.getD 0) 0, .lst u, .lapp .lnil r)] .full [] [room u (max b 1) (.lapp .lnil r)]
    | a => do
      let (l, κ) ← appDst A u a
      newK A cond d (.row u) [(.k (d.getD 0) 0, .lst u, .lapp l r)] .full [(κ, .gone)] [room u (max b 1) (.lapp l r)]
  | _ => none
def stMake (E : Env) (A : Acc) (cond : Cond) (d : Option Tmp) (t : TypeId) (ln cp : Operand) : Option Eff := do
  match ← E.P.underlying t with
  | .slice el => do
    let lv ← lvs E.P el
    let b ← bytesT E.P el
    let (_, zs) ← zeroCs E.P el
    let u := tree lv
    let (k, n) ← opI A cond ln
    let (k2, m) ← opI A cond cp
    if k != .i64 || k2 != .i64 || zs.length != lv.length then none else
    match ← asTs A zs lv with
    | (es, []) =>
      newK A cond d (.row u) [(.k (d.getD 0) 0, .lst u, .lrep n (treeE es))] .full []
        [under A cond (.and (le (.int 0) n) (.and (le n m) (le m (.int (most / (max b 1 : Nat))))))]
    | _ => none
  | _ => none
def stLen (E : Env) (A : Acc) (cond : Cond) (d : Option Tmp) (t : TypeId) (x : Operand) : Option Eff := do
  match ← E.P.underlying t with
  | .string => do let e ← opT A cond x .str; some (put1 cond d (.dyn (.int .i64), .slen e))
  | .slice _ => do
    let c ← op1 A cond x
    match c with
    | (.nil, _) => some (put1 cond d (.dyn (.int .i64), .int 0))
    | c => do let (u, r) ← readL A c; some (put1 cond d (.dyn (.int .i64), .llen u r))
  | .array n _ => some (put1 cond d (.dyn (.int .i64), .int n))
  | _ => none
def spanOf (A : Acc) (u : Ty) : CE → Option (Nat × PE × PE)
  | (.full κ, _) => match A.ks κ with | some (.row t) => if t == u then some (κ, .int 0, .llen u (.loc (.k κ 0))) else none | _ => none
  | (.pre κ, e) => match A.ks κ with | some (.row t) => if t == u then some (κ, .int 0, e) else none | _ => none
  | (.view κ, e) => match A.ks κ with | some (.row t) => if t == u then some (κ, .fst (.int .i64) e, .snd (.int .i64) e) else none | _ => none
  | _ => none
def copied (u : Ty) (κ : Nat) (off n r : PE) : PE :=
  .lapp (.lsub (.loc (.k κ 0)) (.int 0) off) (.lapp (.lsub r (.int 0) n) (.lsub (.loc (.k κ 0)) (.plus off n) (.llen u (.loc (.k κ 0)))))
def stCopy (E : Env) (A : Acc) (cond : Cond) (d : Option Tmp) (t : TypeId) (x y : Operand) : Option Eff := do
  if !cond.isEmpty then none else
  match ← E.P.underlying t with
  | .slice el => do
    let lv ← lvs E.P el
    let u := tree lv
    let a ← op1 A cond x
    let z ← op1 A cond y
    let (κ, off, len) ← spanOf A u a
    let (v, r) ← readL A z
    if v != u then none else
    let n := PE.minI .i64 (.llen u r) len
    let ef := put1 cond d (.dyn (.int .i64), n)
    some { ef with chk := [lt (.int 0) (.llen u (.loc (.k κ 0)))], ks := [(κ, .row u)], sets := ef.sets ++ [(.k κ 0, .lst u, copied u κ off n r)] }
  | _ => none
structure Cv where
  km : List (Nat × Option Nat)
  mvs : List (Loc × Ty × PE)
  fz : Frz
  deriving Repr, Inhabited
def lookK (km : List (Nat × Option Nat)) (κ : Nat) : Option (Option Nat) :=
  match km with
  | [] => none
  | (a, o) :: r => if a == κ then some o else lookK r κ
def usedK (km : List (Nat × Option Nat)) (κ : Nat) : Bool := km.any fun x => x.2 == some κ
def Cv.bindK (c : Cv) (κ : Nat) (o : Option Nat) : Option Cv :=
  match lookK c.km κ with
  | some x => if x == o then some c else none
  | none =>
    match o with
    | none => some { c with km := c.km ++ [(κ, none)] }
    | some κ' => if usedK c.km κ' then none else some { c with km := c.km ++ [(κ, some κ')] }
def cvC (A : Acc) (T : Nat → Option KSh) (c : Cv) (l : Loc) (want : Sh) (x : CE) : Option Cv :=
  match want with
  | .dyn t => do
    let (e, f) ← asT A x t
    some { c with mvs := c.mvs ++ [(l, t, e)], fz := c.fz ++ f }
  | .nil => if x.1 == .nil then some c else none
  | .nilp => if x.1 == .nilp then some c else none
  | .gone => some c
  | .full κ =>
    match x.1, T κ with
    | .full κ', some (.row t) => match A.ks κ' with | some (.row u) => if t == u then c.bindK κ (some κ') else none | _ => none
    | .nil, some (.row t) => c.bindK κ none
    | _, _ => none
  | .ptr κ j =>
    match x.1 with
    | .ptr κ' j' =>
      match T κ, A.ks κ' with
      | some (.box a), some (.box b) => if j == j' && a.length == b.length then c.bindK κ (some κ') else none
      | _, _ => none
    | _ => none
  | .arr κ =>
    match x.1 with
    | .arr κ' =>
      match T κ, A.ks κ' with
      | some (.arr t n), some (.arr u m) => if t == u && n == m then c.bindK κ (some κ') else none
      | _, _ => none
    | _ => none
  | _ => none
def cvCs (A : Acc) (T : Nat → Option KSh) (mk : Nat → Loc) : Cv → Nat → List Sh → List CE → Option Cv
  | c, _, [], [] => some c
  | c, j, w :: ws, x :: xs => do cvCs A T mk (← cvC A T c (mk j) w x) (j + 1) ws xs
  | _, _, _, _ => none
def cvVs (A : Acc) (T : Nat → Option KSh) (mk : Nat → Loc) : Cv → Nat → List Val → List (Bool × List CE) → Option Cv
  | c, _, [], [] => some c
  | c, j, w :: ws, x :: xs =>
    if w.agg != x.1 then none else do
    cvVs A T mk (← cvCs A T mk c j w.cs x.2) (j + w.cs.length) ws xs
  | _, _, _, _ => none
def cvS (A : Acc) (T : Nat → Option KSh) (c : Cv) (i : Nat) (want : SK) (x : OpV) : Option Cv :=
  match want, x with
  | .val w, .val g cs => if w.agg == g then cvCs A T (.s i) c 0 w.cs cs else none
  | .tup ws, .tup vs => cvVs A T (.s i) c 0 ws vs
  | .clo f nf ws, .clo g ng vs => if f == g && nf == ng then cvVs A T (.s i) c 0 ws vs else none
  | _, _ => none
def cvSl (A : Acc) (T : Nat → Option KSh) : Cv → List (Nat × SK) → List OpV → Option Cv
  | c, [], [] => some c
  | c, (i, s) :: r, x :: xs => do cvSl A T (← cvS A T c i s x) r xs
  | _, _, _ => none
def cvK1 (A : Acc) (T : Nat → Option KSh) (c : Cv) (κ : Nat) (k : KSh) : Option Cv :=
  match k, lookK c.km κ with
  | .gone, _ => some c
  | .row t, some (some κ') =>
    match A.ks κ' with
    | some (.row u) => if t == u then some { c with mvs := c.mvs ++ [(.k κ 0, .lst t, .loc (.k κ' 0))] } else none
    | _ => none
  | .row t, some none => some { c with mvs := c.mvs ++ [(.k κ 0, .lst t, .lnil)] }
  | .arr t n, some (some κ') =>
    match A.ks κ' with
    | some (.arr u m) => if t == u && n == m then some { c with mvs := c.mvs ++ [(.k κ 0, .lst t, .loc (.k κ' 0))] } else none
    | _ => none
  | .box cs, some (some κ') =>
    match A.ks κ' with
    | some (.box xs) => cvCs A T (.k κ) c 0 cs (cellsAt (.k κ') 0 xs)
    | _ => none
  | _, _ => none
def cvKs (A : Acc) (T : Nat → Option KSh) : Cv → List (Nat × KSh) → Option Cv
  | c, [] => some c
  | c, (κ, k) :: r => do cvKs A T (← cvK1 A T c κ k) r
def conv (A : Acc) (km0 : List (Nat × Option Nat)) (sl : List (Nat × SK)) (ks : List (Nat × KSh)) (xs : List OpV) : Option Cv := do
  let T := fun κ => (ks.find? (·.1 == κ)).map (·.2)
  let c ← cvSl A T ⟨km0, [], []⟩ sl xs
  let c ← cvKs A T c ks
  if c.fz.any (fun x => usedK c.km x.1) then none else some c
def inKey (κ : Nat) : Nat := 100000 + κ
def renIn : Sh → Sh
  | .full κ => .full (inKey κ)
  | .ptr κ j => .ptr (inKey κ) j
  | s => s
def renVal (v : Val) : Val := ⟨v.agg, v.cs.map renIn⟩
def renSK : SK → SK
  | .val v => .val (renVal v)
  | .tup vs => .tup (vs.map renVal)
  | .clo f nf vs => .clo f nf (vs.map renVal)
  | .dead => .dead
def renK : KSh → KSh
  | .box cs => .box (cs.map renIn)
  | k => k
def numK (ks : List KSh) : List (Nat × KSh) := ks.zipIdx.map fun (k, i) => (inKey i, renK k)
def Sig.roots (sg : Sig) : List Nat := sg.iks.zipIdx.filterMap fun (k, i) => match k with | .box _ => some (inKey i) | _ => none
def Sig.inSl (sg : Sig) : List (Nat × SK) := sg.ins.zipIdx.map fun (k, i) => (i, renSK k)
def Sig.inKs (sg : Sig) : List (Nat × KSh) := numK sg.iks
def Sig.outSK (sg : Sig) : SK :=
  match sg.outs with
  | [v] => .val (renVal v)
  | vs => .tup (vs.map renVal)
def Sig.outKs (sg : Sig) : List (Nat × KSh) := numK sg.oks
def cellLocs (mk : Nat → Loc) : Nat → List Sh → List (Loc × Ty)
  | _, [] => []
  | j, .dyn t :: r => (mk j, t) :: cellLocs mk (j + 1) r
  | j, _ :: r => cellLocs mk (j + 1) r
def valLocs (mk : Nat → Loc) : Nat → List Val → List (Loc × Ty)
  | _, [] => []
  | j, v :: r => cellLocs mk j v.cs ++ valLocs mk (j + v.cs.length) r
def skLocs (i : Nat) : SK → List (Loc × Ty)
  | .dead => []
  | .val v => cellLocs (.s i) 0 v.cs
  | .tup vs | .clo _ _ vs => valLocs (.s i) 0 vs
def keyLocs : List (Nat × KSh) → List (Loc × Ty)
  | [] => []
  | (κ, .row t) :: r | (κ, .arr t _) :: r => (.k κ 0, .lst t) :: keyLocs r
  | (κ, .box cs) :: r => cellLocs (.k κ) 0 cs ++ keyLocs r
  | _ :: r => keyLocs r
def stLocs (sl : List (Nat × SK)) (ks : List (Nat × KSh)) : List (Loc × Ty) := (sl.flatMap fun (i, s) => skLocs i s) ++ keyLocs ks
def Sig.inLocs (sg : Sig) : List (Loc × Ty) := stLocs sg.inSl sg.inKs
def Sig.outLocs (sg : Sig) : List (Loc × Ty) := stLocs [(0, sg.outSK)] sg.outKs
def nodupB {α : Type} [BEq α] : List α → Bool
  | [] => true
  | a :: r => !r.contains a && nodupB r
def isBoxIn (sg : Sig) (κ : Nat) : Bool :=
  match (sg.inKs.find? (fun x => x.1 == κ)).map (fun x : Nat × KSh => x.2) with
  | some (.box _) => true
  | _ => false
def keyName (sg : Sig) (d : Nat) (km : List (Nat × Option Nat)) (κ : Nat) : Option Nat :=
  if isBoxIn sg κ then
    match lookK km κ with
    | some (some κ') => some κ'
    | _ => none
  else if κ - inKey 0 < 64 then some (200000 + d * 64 + (κ - inKey 0)) else none
def rename (nm : Nat → Option Nat) : Sh → Option Sh
  | .dyn t => some (.dyn t)
  | .nil => some .nil
  | .nilp => some .nilp
  | .gone => some .gone
  | .full κ => do some (.full (← nm κ))
  | .ptr κ j => do some (.ptr (← nm κ) j)
  | _ => none
def renameCs (nm : Nat → Option Nat) : List Sh → Option (List Sh)
  | [] => some []
  | s :: r => do some ((← rename nm s) :: (← renameCs nm r))
def renameV (nm : Nat → Option Nat) (v : Val) : Option Val := do some ⟨v.agg, ← renameCs nm v.cs⟩
def renameVs (nm : Nat → Option Nat) : List Val → Option (List Val)
  | [] => some []
  | v :: r => do some ((← renameV nm v) :: (← renameVs nm r))
def renameSK (nm : Nat → Option Nat) : SK → Option SK
  | .val v => do some (.val (← renameV nm v))
  | .tup vs => do some (.tup (← renameVs nm vs))
  | _ => none
def renameK (nm : Nat → Option Nat) : KSh → Option KSh
  | .box cs => do some (.box (← renameCs nm cs))
  | .row t => some (.row t)
  | .gone => some .gone
  | _ => none
def nameOf (nms : List (Nat × Nat)) (κ : Nat) : Option Nat := (nms.find? (·.1 == κ)).map (·.2)
def namesKs (sg : Sig) (d : Nat) (km : List (Nat × Option Nat)) : List (Nat × KSh) → Option (List (Nat × Nat))
  | [] => some []
  | (κ, _) :: r => do some ((κ, ← keyName sg d km κ) :: (← namesKs sg d km r))
def renameKs (nms : List (Nat × Nat)) : List (Nat × KSh) → Option (List (Nat × KSh))
  | [] => some []
  | (κ, k) :: r => do some ((← nameOf nms κ, ← renameK (nameOf nms) k) :: (← renameKs nms r))
def mapLoc (nm : Nat → Option Nat) (dd : Nat) : Loc → Option Loc
  | .s i j => if i == 0 then some (.s dd j) else none
  | .k κ j => do some (.k (← nm κ) j)
  | .g _ => none
def mapLocs (nm : Nat → Option Nat) (dd : Nat) : List (Loc × Ty) → Option (List (Loc × Ty))
  | [] => some []
  | (l, t) :: r => do some ((← mapLoc nm dd l, t) :: (← mapLocs nm dd r))
def goneKs (sg : Sig) (km : List (Nat × Option Nat)) : List (Nat × KSh) → List (Nat × KSh)
  | [] => []
  | (κ, _) :: r =>
    if isBoxIn sg κ then goneKs sg km r
    else match lookK km κ with
      | some (some κ') => (κ', .gone) :: goneKs sg km r
      | _ => goneKs sg km r
def nameFits (A : Acc) (sg : Sig) (km : List (Nat × Option Nat)) (κ n : Nat) (k : KSh) : Bool :=
  if isBoxIn sg κ then (match A.ks n with | some (.box _) => true | _ => false) && (match k with | .box _ | .gone => true | _ => false) && sg.roots.contains κ
  else (A.ks n).isNone && decide (200000 ≤ n)
def namesFit (A : Acc) (sg : Sig) (km : List (Nat × Option Nat)) : List (Nat × Nat) → List (Nat × KSh) → Bool
  | [], [] => true
  | (κ, n) :: r, (κ', k) :: r' => κ == κ' && nameFits A sg km κ n k && namesFit A sg km r r'
  | _, _ => false
def dstOkB (d : Option Tmp) (sg : Sig) : Bool := d.isSome || sg.outLocs.all fun x => match x.1 with | .s _ _ => false | _ => true
def givenOk (km : List (Nat × Option Nat)) (l : List (Nat × KSh)) (ks : List (Nat × KSh)) : Bool :=
  ks.all fun x =>
    match lookK km x.1 with
    | some (some κ') => l.any fun y => y.1 == κ'
    | _ => true
def Sig.flat (sg : Sig) : Bool :=
  sg.oks.all (fun k => k == .gone) && sg.outs.all fun v => v.cs.all fun s => match s with | .dyn t => t.flat | _ => false
def stCall1 (A : Acc) (cond : Cond) (d : Option Tmp) (f : FuncId) (i : Nat) (sg : Sig) (args : List OpV) : Option Eff := do
  let c ← conv A [] sg.inSl sg.inKs args
  if !cond.isEmpty && !sg.iks.isEmpty then none else
  if c.mvs.map (fun x => (x.1, x.2.1)) != sg.inLocs || !nodupB (sg.inLocs.map (·.1)) || !nodupB (sg.inKs.map (·.1)) || decide (100000 < sg.iks.length) then none else
  let dd := d.getD 1000000
  let nms ← namesKs sg dd c.km sg.outKs
  let rk ← renameKs nms sg.outKs
  let gn := goneKs sg c.km sg.inKs
  if !nodupB (nms.map (·.1)) || !nodupB (nms.map (·.2)) || !namesFit A sg c.km nms sg.outKs || !nodupB (sg.outKs.map (·.1)) then none else
  if !givenOk c.km (gn ++ rk) sg.inKs then none else
  let sk ← renameSK (nameOf nms) sg.outSK
  let outs ← mapLocs (nameOf nms) dd sg.outLocs
  if !nodupB (sg.outLocs.map (·.1)) || !nodupB (outs.map (·.1)) || !dstOkB d sg then none else
  some { call := some ⟨condE A cond, f, i, c.mvs.map (·.2), outs⟩, sl := (if d.isSome then [(dd, ⟨cond, sk⟩)] else []), ks := (if sg.flat then [] else c.fz) ++ (gn ++ rk) }
def stCalls (A : Acc) (cond : Cond) (d : Option Tmp) (f : FuncId) (args : List OpV) : Nat → List Sig → Option Eff
  | _, [] => none
  | i, sg :: r =>
    match stCall1 A cond d f i sg args with
    | some e => some e
    | none => stCalls A cond d f args (i + 1) r
def enters (P : Program) (f : FuncId) : Bool :=
  match P.funcs[f]? with
  | some fn => fn.name != "runtime.NumGoroutine" && fn.body.isSome
  | none => false
def stCall (E : Env) (A : Acc) (cond : Cond) (d : Option Tmp) (f : FuncId) (args : List OpV) : Option Eff :=
  if enters E.P f then stCalls A cond d f args 0 (E.sig f) else none
def isDyns : List CE → List Ty → Bool
  | [], [] => true
  | (.dyn u, _) :: cs, t :: ts => u == t && isDyns cs ts
  | _, _ => false
def chunkDyn (l : List Ty) : Nat → List CE → Bool
  | 0, _ => true
  | n + 1, cs => isDyns (cs.take l.length) l && chunkDyn l n (cs.drop l.length)
def chunkPs (l : List Ty) : Nat → List CE → List PE
  | 0, _ => []
  | n + 1, cs => treeE ((cs.take l.length).map (·.2)) :: chunkPs l n (cs.drop l.length)
def chunkEs (A : Acc) (l : List Ty) : Nat → List CE → Option (List PE)
  | 0, _ => some []
  | n + 1, cs => do
    let (es, _) ← asTs A (cs.take l.length) l
    some (treeE es :: (← chunkEs A l n (cs.drop l.length)))
def globCs (l : List Ty) (e : PE) : Nat → Nat → List CE
  | _, 0 => []
  | i, n + 1 => leafCs l (.lidx e (.int (i : Int))) 0 l.length ++ globCs l e (i + 1) n
def placeOf (P : Program) (t : TypeId) (i : Nat) : Option (Nat × Nat) := do
  match ← P.underlying t with
  | .struct fs => do let x ← fs[i]?; some (x.offset, ← sizeT P x.type)
  | .array _ e => do some (i * (← sizeT P e), ← sizeT P e)
  | _ => none
def sized (P : Program) (t : TypeId) : Bool :=
  match P.underlying t with
  | some (.struct fs) => fs.toList.all fun f => (sizeT P f.type).isSome
  | some (.array _ e) => (sizeT P e).isSome
  | _ => false
def buildCs (E : Env) (A : Acc) (cond : Cond) (t : TypeId) : List (Nat × Operand) → List CE → Option (List CE)
  | [], cs => some cs
  | p :: r, cs => do
    let (_, xs) ← opC A cond p.2
    let (off, n) ← placeOf E.P t p.1
    if n != xs.length then none else
    if off + xs.length ≤ cs.length then buildCs E A cond t r (cs.take off ++ xs ++ cs.drop (off + xs.length)) else none
def sliceEs (A : Acc) (cond : Cond) (lv : List Ty) : Nat → List (Nat × Operand) → Option (List PE × Frz)
  | _, [] => some ([], [])
  | i, p :: r =>
    if p.1 != i then none else do
    let (_, cs) ← opC A cond p.2
    let (e, f) ← asTs A cs lv
    let (es, g) ← sliceEs A cond lv (i + 1) r
    some (treeE e :: es, f ++ g)
def stIndexArr (E : Env) (A : Acc) (cond : Cond) (d : Option Tmp) (n : Nat) (el : TypeId) (x : Operand) (i : PE) : Option Eff := do
  let l ← lvs E.P el
  let g ← isAggT E.P el
  match ← opC A cond x with
  | (true, cs) =>
    if cs.length == n * l.length && (g || l.length == 1) && decide (n < 2 ^ 40) && chunkDyn l n cs then do
      some { putV cond d (.val g (leafCs l (.lidx (listE (chunkPs l n cs)) i) 0 l.length)) with chk := [under A cond (inB i (.int n))] }
    else none
  | _ => none
def armC (cond : Cond) (c : Operand) (wt : Bool) : Cond :=
  match c with
  | .tmp t => cond ++ [(t, wt)]
  | _ => cond
def stat (E : Env) (A : Acc) (cond : Cond) (o : Oper) : Option Eff := do
  let d := o.dst
  match o.op with
  | .move x | .assign x => some (putV cond d (← opV A cond x))
  | .pick c a b => do
    let ce ← opT A cond c .bool
    match ← op1 A (armC cond c true) a, ← op1 A (armC cond c false) b with
    | (.dyn t, x), (.dyn u, y) => if t == u then some (put1 cond d (.dyn t, .ite ce x y)) else none
    | _, _ => none
  | .alloc t => do
    match ← E.P.underlying t with
    | .array n e => do
      let lv ← lvs E.P e
      let (_, zs) ← zeroCs E.P e
      let (_, all) ← zeroCs E.P t
      let u := tree lv
      match zs, lv with
      | [(.dyn v, e)], [_] =>
        if !u.isLeaf || v != u || all != List.replicate n (.dyn v, e) then none else
        newK A cond d (.arr u n) [(.k (d.getD 0) 0, .lst u, .lrep (.int n) e)] .arr [] []
      | _, _ => none
    | _ => do
      let (_, zs) ← zeroCs E.P t
      newK A cond d (.box (zs.map (·.1))) (setCs (.k (d.getD 0)) 0 zs) (fun d => .ptr d 0) [] []
  | .box t x => do
    let (_, cs) ← opC A cond x
    match ← E.P.underlying t with
    | .array n e => do
      let lv ← lvs E.P e
      let u := tree lv
      if !u.isLeaf then none else
      let (es, fz) ← asTs A cs (List.replicate n u)
      newK A cond d (.arr u n) [(.k (d.getD 0) 0, .lst u, listE es)] .arr fz []
    | _ => newK A cond d (.box (cs.map (·.1))) (setCs (.k (d.getD 0)) 0 cs) (fun d => .ptr d 0) [] []
  | .build t parts => do
    let (_, zs) ← zeroCs E.P t
    if !sized E.P t then none else
    some (putV cond d (.val true (← buildCs E A cond t parts.toList zs)))
  | .buildSlice t len parts => do
    match ← E.P.underlying t with
    | .slice el => do
      let lv ← lvs E.P el
      let u := tree lv
      let _ ← zeroCs E.P el
      if parts.size != len || len * lv.length > 2 ^ 20 then none else
      let (es, fz) ← sliceEs A cond lv 0 parts.toList
      newK A cond d (.row u) [(.k (d.getD 0) 0, .lst u, listE es)] .full fz []
    | _ => none
  | .load t (.global g) => do
    match ← E.P.underlying t with
    | .array n e => do
      let (u, m) ← E.tab g
      let l ← lvs E.P e
      if n != m || tree l != u || sizeT E.P t != some (n * l.length) then none else
      some (putV cond d (.val true (globCs l (.loc (.g g)) 0 n)))
    | _ => none
  | .load t a => stLoad E A cond d t (← op1 A cond a)
  | .store t a x => stStore E A cond d t (← op1 A cond a) (← opC A cond x)
  | .nilCheck x => do some (put1 cond d (← liveC A (← op1 A cond x)))
  | .binOp op t x y _ => stBin E A cond d op t x y
  | .unOp op _ x => do stUn cond d op (← op1 A cond x)
  | .convert s t x =>
    match stS2b E A cond d s t x with
    | some e => some e
    | none =>
      match stB2b E A cond d s t x with
      | some e => some e
      | none => stConv E A cond d s t x
  | .makeFunc (.func f) first captured => do
    let ws ← first.toList.mapM (opC A cond)
    let vs ← captured.toList.mapM (opC A cond)
    some (putV cond d (.clo f first.size (ws ++ vs)))
  | .makeSlice t l c => stMake E A cond d t l c
  | .slice t x lo hi none => stSlice E A cond d t x lo hi none
  | .slice t x lo hi (some mx) => later (stSlice E A cond d t x lo hi (some mx))
  | .fieldAddr t x f => do
    let (o, ft) ← fieldOff E.P t f
    if (← sizeT E.P ft) == 0 then none else
    some (put1 cond d (← shift (← liveC A (← op1 A cond x)) o))
  | .field t x f => do
    let (o, ft) ← fieldOff E.P t f
    let n ← sizeT E.P ft
    let g ← isAggT E.P ft
    match ← opC A cond x with
    | (true, cs) => if o + n ≤ cs.length && (g || n == 1) then some (putV cond d (.val g ((cs.drop o).take n))) else none
    | _ => none
  | .indexAddr t x ix => stIndexAddr E A cond d t x ix
  | .index t x ix => do
    let i ← opX A cond ix
    match ← E.P.underlying t with
    | .string => do
      let e ← opT A cond x .str
      some { put1 cond d (.dyn (.int .u8), .sidx e i) with chk := [under A cond (inB i (.slen e))] }
    | .array n el => stIndexArr E A cond d n el x i
    | _ => none
  | .extract x i => do
    match ← opV A cond x with
    | .tup vs => do let (g, cs) ← vs[i]?; some (putV cond d (.val g cs))
    | _ => none
  | .call c => do
    match c.callee with
    | .builtin .append => match c.args.toList, c.argTypes.toList with | [x, y], t :: t2 :: _ => stAppend E A cond d t t2 x y | _, _ => none
    | .builtin .len => match c.args.toList, c.argTypes.toList with | [x], t :: _ => stLen E A cond d t x | _, _ => none
    | .builtin .copy => match c.args.toList, c.argTypes.toList with | [x, y], t :: _ => stCopy E A cond d t x y | _, _ => none
    | .builtin .min => match c.args.toList with
      | [x, y] => do let (k, a) ← opI A cond x; let (k2, b) ← opI A cond y; if k == k2 then some (put1 cond d (.dyn (.int k), .minI k a b)) else none
      | _ => none
    | .builtin .max => match c.args.toList with
      | [x, y] => do let (k, a) ← opI A cond x; let (k2, b) ← opI A cond y; if k == k2 then some (put1 cond d (.dyn (.int k), .maxI k a b)) else none
      | _ => none
    | .builtin _ => none
    | .invoke .. => none
    | .value g => do
      match ← opV A cond g with
      | .clo f nf vs => do
        let as ← c.args.toList.mapM (opV A cond)
        let ws := vs.map fun v => OpV.val v.1 v.2
        stCall E A cond d f (ws.take nf ++ as ++ ws.drop nf)
      | _ => none
  | _ => none
end Rk
set_option linter.unusedVariables false
namespace Rk
open Go
structure St where
  sl : Tab Slot
  ks : Tab KSh
  deriving Repr, Inhabited
def St.acc (S : St) : Acc := ⟨fun i => (S.sl.get i).getD ⟨[], .dead⟩, fun κ => S.ks.get κ⟩
def setSl (t : Tab Slot) : List (Nat × Slot) → Tab Slot
  | [] => t
  | (i, s) :: r => setSl (t.set i s) r
def setKs (t : Tab KSh) : List (Nat × KSh) → Tab KSh
  | [] => t
  | (i, s) :: r => setKs (t.set i s) r
def St.put (S : St) (e : Eff) : St := ⟨setSl S.sl e.sl, setKs S.ks e.ks⟩
inductive TC where
  | nop
  | effs (l : List Eff)
  | seq (a b : TC)
  | cond (e : PE) (a b : TC)
  | block (id : Nat) (a : TC)
  | loop (V : List (Loc × Ty)) (a : TC)
  | bnd (V : List (Loc × Ty)) (own : Bool) (a b : TC)
  | exit (id : Nat)
  | ret (outs : List (Ty × PE))
  | mv (l : List (Loc × Ty × PE)) (a : TC)
  deriving Repr, Inhabited
structure Fe where
  E : Env
  fn : Func
  sg : Sig
  nt : Nat
  rt : List Nat
  mp : Option Nat
def Sh.keys : Sh → List Nat
  | .full κ | .pre κ | .view κ | .ptr κ _ | .arr κ | .ept κ _ => [κ]
  | _ => []
def KSh.keys : KSh → List Nat
  | .box cs => cs.flatMap Sh.keys
  | _ => []
def SK.cells : SK → List Sh
  | .dead => []
  | .val v => v.cs
  | .tup vs | .clo _ _ vs => vs.flatMap (·.cs)
structure Uj where
  km : List (Option Nat × Option Nat × Nat)
  next : Nat
  deriving Repr, Inhabited
def Uj.pair (u : Uj) (a b : Option Nat) : Option (Nat × Uj) :=
  match u.km.find? (fun x => x.1 == a && x.2.1 == b && (a.isSome || b.isSome)) with
  | some x => some (x.2.2, u)
  | none =>
    if u.km.any (fun x => (a.isSome && x.1 == a) || (b.isSome && x.2.1 == b)) then none
    else some (u.next, ⟨u.km ++ [(a, b, u.next)], u.next + 1⟩)
def lstTy (A : Acc) : Sh → Option Ty
  | .dyn (.lst t) => some t
  | .cap t => some t
  | .full κ | .pre κ | .view κ => match A.ks κ with | some (.row t) | some (.imm t) => some t | _ => none
  | _ => none
def rowTy (A : Acc) : Sh → Option (Nat × Ty)
  | .full κ => match A.ks κ with | some (.row t) => some (κ, t) | _ => none
  | _ => none
def asDyn (A B : Acc) (a b : Sh) : Option Sh :=
  match lstTy A a, lstTy B b with
  | some t, some u => if t == u then some (.dyn (.lst t)) else none
  | some t, none => if b == .nil then some (.dyn (.lst t)) else none
  | none, some t => if a == .nil then some (.dyn (.lst t)) else none
  | none, none => none
def uniC (A B : Acc) (u : Uj) (a b : Sh) : Option (Sh × Uj) :=
  match a, b with
  | .dyn t, .dyn t' => if t == t' then some (.dyn t, u) else none
  | .nil, .nil => some (.nil, u)
  | .nilp, .nilp => some (.nilp, u)
  | .ptr κ j, .ptr κ' j' =>
    match A.ks κ, B.ks κ' with
    | some (.box cs), some (.box cs') =>
      if j == j' && cs.length == cs'.length then do let (n, u) ← u.pair (some κ) (some κ'); some (.ptr n j, u) else none
    | _, _ => none
  | .arr κ, .arr κ' =>
    match A.ks κ, B.ks κ' with
    | some (.arr t n), some (.arr t' n') => if t == t' && n == n' then do let (n, u) ← u.pair (some κ) (some κ'); some (.arr n, u) else none
    | _, _ => none
  | a, b =>
    let r : Option (Sh × Uj) :=
      match rowTy A a, rowTy B b with
      | some (κ, t), some (κ', t') => if t == t' then do let (n, u) ← u.pair (some κ) (some κ'); some (.full n, u) else none
      | some (κ, t), none => if b == .nil then do let (n, u) ← u.pair (some κ) none; some (.full n, u) else none
      | none, some (κ, t) => if a == .nil then do let (n, u) ← u.pair none (some κ); some (.full n, u) else none
      | none, none => none
    match r with
    | some r => some r
    | none => do let s ← asDyn A B a b; some (s, u)
def uniCs (A B : Acc) : Uj → List Sh → List Sh → Option (List Sh × Uj)
  | u, [], [] => some ([], u)
  | u, a :: as, b :: bs => do
    let (c, u) ← uniC A B u a b
    let (cs, u) ← uniCs A B u as bs
    some (c :: cs, u)
  | _, _, _ => none
def uniVs (A B : Acc) : Uj → List Val → List Val → Option (List Val × Uj)
  | u, [], [] => some ([], u)
  | u, a :: as, b :: bs => do
    if a.agg != b.agg then none else
    let (c, u) ← uniCs A B u a.cs b.cs
    let (cs, u) ← uniVs A B u as bs
    some (⟨a.agg, c⟩ :: cs, u)
  | _, _, _ => none
def uniS (A B : Acc) (u : Uj) (a b : Slot) : Option (Slot × Uj) :=
  if !a.cond.isEmpty || !b.cond.isEmpty then none else
  match a.k, b.k with
  | .val v, .val w => do
    if v.agg != w.agg then none else
    let (cs, u) ← uniCs A B u v.cs w.cs
    some (⟨[], .val ⟨v.agg, cs⟩⟩, u)
  | .clo f nf vs, .clo g ng ws => do
    if f != g || nf != ng then none else
    let (cs, u) ← uniVs A B u vs ws
    some (⟨[], .clo f nf cs⟩, u)
  | _, _ => none
def uniSl (A B : Acc) : Uj → List Nat → List (Nat × Slot) × Uj
  | u, [] => ([], u)
  | u, i :: r =>
    match uniS A B u (A.sl i) (B.sl i) with
    | some (s, u) => let (l, u) := uniSl A B u r; ((i, s) :: l, u)
    | none => uniSl A B u r
def uniBox (A B : Acc) : Uj → List Sh → List Sh → List Sh × Uj
  | u, a :: as, b :: bs =>
    match uniC A B u a b with
    | some (c, u) => let (cs, u) := uniBox A B u as bs; (c :: cs, u)
    | none => let (cs, u) := uniBox A B u as bs; (.gone :: cs, u)
  | u, _, _ => ([], u)
def uniKs (A B : Acc) : Nat → Nat → Uj → List (Nat × KSh) → List (Nat × KSh) × Uj
  | 0, _, u, acc => (acc, u)
  | f + 1, i, u, acc =>
    match u.km[i]? with
    | none => (acc, u)
    | some (a, b, n) =>
      match a.bind A.ks, b.bind B.ks with
      | some (.row t), _ => uniKs A B f (i + 1) u (acc ++ [(n, .row t)])
      | _, some (.row t) => uniKs A B f (i + 1) u (acc ++ [(n, .row t)])
      | some (.arr t m), _ => uniKs A B f (i + 1) u (acc ++ [(n, .arr t m)])
      | some (.box cs), some (.box cs') =>
        let (c, u) := uniBox A B u cs cs'
        uniKs A B f (i + 1) u (acc ++ [(n, .box c)])
      | _, _ => uniKs A B f (i + 1) u acc
def keyBase : Nat := 500000
structure Nf where
  sl : List (Nat × Slot)
  ks : List (Nat × KSh)
  deriving DecidableEq, Repr, Inhabited
def Nf.st (N : Nf) : St := ⟨setSl .nil N.sl, setKs .nil N.ks⟩
def join1 (rt : List Nat) (nt : Nat) (A B : Acc) : Nf :=
  let (sl, u) := uniSl A B ⟨rt.map fun κ => (some κ, some κ, κ), keyBase⟩ (List.range nt)
  let (ks, _) := uniKs A B 400 0 u []
  ⟨sl, ks⟩
def frozenC (A : Acc) (want have_ : Sh) : List Nat :=
  match want, have_ with
  | .dyn (.lst _), .full κ | .dyn (.lst _), .pre κ | .dyn (.lst _), .view κ => match A.ks κ with | some (.row _) => [κ] | _ => []
  | _, _ => []
def frozenCs (A : Acc) : List Sh → List Sh → List Nat
  | w :: ws, h :: hs => frozenC A w h ++ frozenCs A ws hs
  | _, _ => []
def frozenIn (A : Acc) (N : Nf) : List Nat :=
  (N.sl.flatMap fun (i, s) => frozenCs A s.k.cells (A.sl i).k.cells)
def frozenBox (A : Acc) (T : Acc) : Nat → Sh → Sh → List Nat
  | 0, _, _ => []
  | f + 1, want, h =>
    match want, h with
    | .ptr κ _, .ptr κ' _ =>
      match T.ks κ, A.ks κ' with
      | some (.box ws), some (.box hs) => frozenCs A ws hs ++ (ws.zip hs).flatMap fun (w, h) => frozenBox A T f w h
      | _, _ => []
    | _, _ => []
def frozen (A : Acc) (N : Nf) : List Nat :=
  let T := N.st.acc
  frozenIn A N ++ N.sl.flatMap fun (i, s) => (s.k.cells.zip (A.sl i).k.cells).flatMap fun (w, h) => frozenBox A T 3 w h
def Acc.freeze (A : Acc) (l : List Nat) : Acc :=
  ⟨A.sl, fun κ => match A.ks κ with | some (.row t) => if l.contains κ then some (.imm t) else some (.row t) | k => k⟩
def joinF (rt : List Nat) : Nat → Nat → Acc → Acc → Nf
  | 0, nt, A, B => join1 rt nt A B
  | f + 1, nt, A, B =>
    let N := join1 rt nt A B
    let a := frozen A N
    let b := frozen B N
    if a.isEmpty && b.isEmpty then N else joinF rt f nt (A.freeze a) (B.freeze b)
def join (rt : List Nat) (nt : Nat) (A B : Acc) : Nf := joinF rt 6 nt A B
def slotsOf (A : Acc) : List (Nat × Slot) → Option (List OpV)
  | [] => some []
  | (i, s) :: r => do
    if !s.cond.isEmpty then none else
    some ((← opTmp A [] i) :: (← slotsOf A r))
def Nf.ok (N : Nf) : Bool :=
  nodupB (N.sl.map (·.1)) && nodupB (N.ks.map (·.1)) && N.sl.all (fun x => decide (x.1 < 2 ^ 39)) && N.ks.all (fun x => decide (x.1 < 2 ^ 39))
def notG : Loc → Bool
  | .g _ => false
  | _ => true
def lowL : Loc → Bool
  | .k κ _ => decide (κ < 2 ^ 40)
  | _ => true
def isId (x : Loc × Ty × PE) : Bool := x.2.2 == .loc x.1
def coerce (rt : List Nat) (A : Acc) (N : Nf) : Option (List (Loc × Ty × PE)) := do
  if !N.ok then none else
  let xs ← slotsOf A N.sl
  let c ← conv A (rt.map fun κ => (κ, some κ)) (N.sl.map fun (i, s) => (i, s.k)) N.ks xs
  let mv := c.mvs.filter fun x => !isId x
  let id := c.mvs.filter isId
  let ls := mv.map (·.1)
  if nodupB ls && ls.all notG && !id.any (fun x => ls.contains x.1) && ls.all lowL then some mv else none
def killCond (S : St) : List (Nat × Slot) → St
  | [] => S
  | (i, s) :: r => killCond (if s.cond.isEmpty then S else ⟨S.sl.set i ⟨[], .dead⟩, S.ks⟩) r
def guardC (A : Acc) (ops : Array Oper) (o : Oper) : Option Cond :=
  match o.guard with
  | none => some []
  | some (j, w) => do
    let g ← (← ops[j]?).dst
    match A.sl g with
    | ⟨c, .val ⟨false, [.dyn .bool]⟩⟩ => some (c ++ [(g, w)])
    | _ => none
def isImm (x : Nat × KSh) : Bool := match x.2 with | .imm _ => true | _ => false
def frzB (A : Acc) (l : List (Nat × KSh)) : Bool := l.all fun x => match x.2, A.ks x.1 with | .imm t, some (.row u) => t == u | _, _ => false
def newB (A : Acc) (outs : List (Loc × Ty)) (l : List (Nat × KSh)) : Bool :=
  l.all fun x => match x.2 with | .row t => (A.ks x.1).isNone && decide (200000 ≤ x.1) && outs.contains (.k x.1 0, .lst t) | _ => false
def skipOk (A : Acc) (c : Cond) (d : Option Tmp) (e : Eff) : Bool :=
  match d with
  | none => e.sl.isEmpty && e.ks.isEmpty && e.sets.isEmpty && e.call.isNone
  | some d =>
    !(c.any fun y => y.1 == d) &&
    (match e.sl with | [_] => true | _ => false) &&
    match e.call with
    | some k => e.sets.isEmpty && k.cond == condE A c && nodupB (k.outs.map (·.1)) && frzB A (e.ks.takeWhile isImm) && newB A k.outs (e.ks.dropWhile isImm) &&
      k.outs.all fun x => match x.1 with | .s i _ => i == d | .k n _ => (e.ks.dropWhile isImm).any (fun y => y.1 == n) | .g _ => false
    | none =>
      (e.ks.isEmpty && e.sets.all fun x => match x.1 with | .s i _ => i == d | _ => false) ||
      match e.ks.getLast?, e.sets with
      | some (k, .row u), [(l, t, .ite g _ .lnil)] =>
        k == d && l == .k d 0 && t == .lst u && g == andE (condE A c) && (A.ks d).isNone && frzB A e.ks.dropLast
      | _, _ => false
def callForm (o : Oper) (e : Eff) : Bool :=
  match e.call with
  | none => true
  | some _ =>
    match o.op with
    | .call c => match c.callee with | .value _ => true | _ => false
    | _ => false
def okEff (nt : Nat) (seen : List Nat) (A : Acc) (c : Cond) (o : Oper) (e : Eff) : Bool :=
  (match o.dst with | none => true | some d => decide (d < nt) && !seen.contains d && e.sl.any (fun x => x.1 == d)) &&
  c.all (fun y => seen.contains y.1) &&
  e.sl.all (fun x => x.2.cond == c && o.dst == some x.1 && decide (x.1 < 2 ^ 39)) &&
  e.ks.all (fun x => decide (x.1 < 2 ^ 39)) &&
  e.sets.all (fun x => match x.1 with | .s i _ => o.dst == some i | .k _ _ => true | .g _ => false) &&
  (match e.call with | some k => e.sets.isEmpty && k.outs.all (fun x => match x.1 with | .s i _ => o.dst == some i | .k _ _ => true | .g _ => false) | none => true) &&
  (c.isEmpty || skipOk A c o.dst e) && callForm o e
def trOps (E : Env) (nt : Nat) (ops : Array Oper) : List Oper → List Nat → St → Option (St × List Eff)
  | [], _, S => some (S, [])
  | o :: r, seen, S => do
    let c ← guardC S.acc ops o
    let e ← stat E S.acc c o
    if !okEff nt seen S.acc c o e then none else
    let (S', es) ← trOps E nt ops r (o.dst.toList ++ seen) (S.put e)
    some (killCond S' e.sl, e :: es)
def PE.locs : PE → List Loc
  | .loc l => [l]
  | .int _ | .bool _ | .str _ | .lnil | .unit => []
  | .ar _ _ _ a b | .cmpI _ _ a b | .cmpS _ a b | .cmpB _ a b | .cat a b | .sidx a b | .lidx a b | .lapp a b | .lrep a b | .pair a b | .and a b | .imp a b | .minI _ a b | .maxI _ a b | .plus a b | .minus a b => a.locs ++ b.locs
  | .neg _ a | .com _ a | .not a | .conv _ a | .slen a | .llen _ a | .one a | .b2s a | .s2b a | .fst _ a | .snd _ a => a.locs
  | .ssub a b c | .lsub a b c | .lset a b c | .ite a b c => a.locs ++ b.locs ++ c.locs
structure Fp where
  rs : List Nat
  rk : List Nat
  nm : Nat
  rl : List Loc
  ws : List Nat
  wk : List Nat
  wl : List Loc
  deriving Repr, Inhabited
def opTmps (o : Oper) : List Nat := o.op.operands.toList.filterMap fun | .tmp t => some t | _ => none
def reach (A : Acc) : Nat → List Nat → List Nat
  | 0, l => l
  | f + 1, l => l ++ reach A f (l.flatMap fun κ => match A.ks κ with | some k => k.keys | none => [])
def isCallV (o : Oper) : Bool := match o.op with | .call c => (match c.callee with | .value _ => true | _ => false) | _ => false
def callLocs : Option CallE → List Loc
  | some c => c.cond.flatMap PE.locs ++ c.args.flatMap (fun x => x.2.locs)
  | none => []
def callOuts : Option CallE → List Loc
  | some c => c.outs.map (·.1)
  | none => []
def footprint (A : Acc) (o : Oper) (c : Cond) (e : Eff) : Fp :=
  let ts := opTmps o ++ c.map (·.1)
  { rs := ts, rk := o.dst.toList ++ e.ks.map (·.1) ++ reach A (if isCallV o then 3 else 0) (ts.flatMap fun t => (A.sl t).k.cells.flatMap Sh.keys),
    nm := 200000 + o.dst.getD 1000000 * 64,
    rl := e.chk.flatMap PE.locs ++ e.sets.flatMap (fun x => x.2.2.locs) ++ callLocs e.call ++ c.map (fun x => .s x.1 0),
    ws := e.sl.map (·.1), wk := e.ks.map (·.1), wl := e.sets.map (·.1) ++ callOuts e.call }
def closedB (A : Acc) (l : List Nat) : Bool := l.all fun κ => match A.ks κ with | some k => k.keys.all fun x => l.contains x | none => true
def meets {α : Type} [BEq α] (a b : List α) : Bool := a.any fun x => b.contains x
def meetsN (a : List Nat) (nm : Nat) : Bool := a.any fun x => decide (nm ≤ x) && decide (x < nm + 64)
def Fp.hits (a b : Fp) : Bool :=
  meets a.ws b.ws || meets a.ws b.rs || meets a.wk b.rk || meetsN a.wk b.nm || meets a.wl b.wl || meets a.wl b.rl
def Fp.clash (a b : Fp) : Bool := a.hits b || b.hits a
structure Rec where
  o : Oper
  c : Cond
  e : Eff
  f : Fp
def recs (E : Env) (ops : Array Oper) : List Oper → St → Option (List Rec)
  | [], _ => some []
  | o :: r, S => do
    let c ← guardC S.acc ops o
    let e ← stat E S.acc c o
    let f := footprint S.acc o c e
    if isCallV o && !closedB S.acc f.rk then none else
    some (⟨o, c, e, f⟩ :: (← recs E ops r (S.put e)))
def ancs : List Oper → List Nat → List Nat
  | [], acc => acc
  | o :: r, acc => ancs r (acc ++ [o.after.toList.foldl (fun s x => if Region.binds .any x then s ||| 2 ^ x.on ||| acc.getD x.on 0 else s) 0])
def backs : List Oper → Nat → Bool
  | [], _ => true
  | o :: r, k => (o.after.toList.all fun x => !Region.binds .any x || decide (x.on < k)) && backs r (k + 1)
def freeOf (an : Nat) (f : Fp) : Nat → List Rec → Bool
  | _, [] => true
  | i, r :: rs => (an.testBit i || !f.clash r.f) && freeOf an f (i + 1) rs
def freeAll (done : List Rec) : List Nat → List Rec → Bool
  | an :: as, r :: rs => freeOf an r.f 0 done && freeAll (done ++ [r]) as rs
  | _, _ => true
def drawOk (E : Env) (ops : Array Oper) (S : St) : Bool :=
  E.P.follows .mixedOrders &&
  match recs E ops ops.toList S with
  | some rs => backs ops.toList 0 && freeAll [] (ancs ops.toList []) rs
  | none => false
def cleanS (s : Slot) : Slot := if s.cond.isEmpty then s else ⟨[], .dead⟩
def St.clean (S : St) : St := ⟨S.sl.map cleanS, S.ks⟩
def gk : Nat := 2 ^ 41
def gL (j : Nat) : Loc := .k gk j
def mapD : Ty := .lst (.pair .str (.lst (.int .i64)))
def fLen : Nat := 1000000
def fApp : Nat := 1000001
def fGet : Nat := 1000002
structure Ml where
  mps : List Nat
  ents : List (Nat × Nat)
def isM (m : Nat) (L : Ml) (x : Nat) : Bool := x == m || L.mps.contains x
def lowE (e : Eff) : Bool := e.sets.all (fun x => lowL x.1) && match e.call with | some k => k.outs.all (fun x => lowL x.1) | none => true
def mapT (P : Program) (t : TypeId) : Option TypeId := do
  match ← P.underlying t with
  | .map k e =>
    match ← P.underlying k, ← P.underlying e with
    | .string, .slice el => if lvs P el == some [.int .i64] && zeroCs P e == some (false, [(.nil, .unit)]) && zeroCs P el == some (false, [(.dyn (.int .i64), .int 0)]) then some el else none
    | _, _ => none
  | _ => none
def isStrS : Slot → Bool
  | ⟨[], .val ⟨false, [.dyn .str]⟩⟩ => true
  | _ => false
def goneE (d : Nat) : Eff := { sl := [(d, ⟨[], .dead⟩)] }
def entUse (d : Nat) (r : List Oper) : Bool := r.any fun o =>
  match o.op with
  | .call c => (match c.callee with | .builtin .len | .builtin .append => true | _ => false) && (match c.args.toList with | .tmp x :: _ => x == d | _ => false)
  | _ => false
def mapOp1 (E : Env) (m : Nat) (rest : List Oper) (L : Ml) (A : Acc) (seen : List Nat) (o : Oper) : Option (Eff × Ml) :=
  match o.op, o.dst with
  | .move (.tmp x), some d => if isM m L x then some (goneE d, { L with mps := d :: L.mps }) else none
  | .lookup t (.tmp x) (.tmp k) false, some d =>
    if isM m L x && seen.contains k && (mapT E.P t).isSome && isStrS (A.sl k) then
      if entUse d rest then some ({ goneE d with chk := [lt (.int 0) (.loc (gL 1))] }, { L with ents := (d, k) :: L.ents })
      else some ({ sl := [(d, ⟨[], .val ⟨false, [.dyn (.lst (.int .i64))]⟩⟩)], call := some ⟨[], fGet, 0, [(.int .i64, .loc (gL 1)), (mapD, .loc (gL 0)), (.str, .loc (.s k 0))], [(.s d 0, .lst (.int .i64)), (gL 1, .int .i64)]⟩ }, L)
    else none
  | .call c, some d =>
    match c.callee, c.args.toList, c.argTypes.toList with
    | .builtin .len, [.tmp x], t :: _ =>
      match L.ents.find? (fun y => y.1 == x), E.P.underlying t with
      | some (_, k), some (.slice _) =>
        some ({ sl := [(d, ⟨[], .val ⟨false, [.dyn (.int .i64)]⟩⟩)], call := some ⟨[], fLen, 0, [(.int .i64, .loc (gL 1)), (mapD, .loc (gL 0)), (.str, .loc (.s k 0))], [(.s d 0, .int .i64)]⟩ }, L)
      | _, _ => none
    | _, _, _ => none
  | _, _ => none
def mapOp2 (E : Env) (m : Nat) (L : Ml) (A : Acc) (seen : List Nat) (o o2 : Oper) : Option (Eff × Ml) :=
  match o.op, o.dst, o2.op, o2.dst with
  | .makeMap t none, some d, .assign (.tmp d2), some m2 =>
    if d2 == d && m2 == m && d != m && (mapT E.P t).isSome then
      some ({ sl := [(d, ⟨[], .dead⟩), (m, ⟨[], .dead⟩)], sets := [(gL 0, mapD, .lnil), (gL 1, .int .i64, .int 1)] }, ⟨[d], []⟩)
    else none
  | .call c, some d, .mapUpdate t3 (.tmp x2) (.tmp k2) (.tmp d2), none =>
    match c.callee, c.args.toList, c.argTypes.toList with
    | .builtin .append, [.tmp x, y], t :: t2 :: _ =>
      match L.ents.find? (fun z => z.1 == x), mapT E.P t3, op1 A [] y with
      | some (_, k), some el, some cz =>
        match readL A cz, E.P.underlying t, E.P.underlying t2, bytesT E.P el with
        | some (.int .i64, r), some (.slice el'), some dd, some b =>
          if d2 == d && isM m L x2 && seen.contains k2 && isStrS (A.sl k2) && el' == el && !isIntD dd && decide (b ≤ 64) then
            some ({ chk := [lt (.int 0) (.llen (.int .i64) r)], sl := [(d, ⟨[], .dead⟩)], call := some ⟨[], fApp, 0, [(.int .i64, .loc (gL 1)), (mapD, .loc (gL 0)), (.str, .loc (.s k 0)), (.str, .loc (.s k2 0)), (.lst (.int .i64), r)], [(gL 0, mapD)]⟩ }, ⟨L.mps, []⟩)
          else none
        | _, _, _, _ => none
      | _, _, _ => none
    | _, _, _ => none
  | _, _, _, _ => none
def dstFree (nt m : Nat) (seen : List Nat) (o : Oper) : Bool :=
  o.guard.isNone && match o.dst with | none => true | some d => decide (d < nt) && !seen.contains d && d != m
def mapOps (E : Env) (nt m : Nat) : List Oper → List Nat → Ml → St → Option (St × List Eff)
  | [], _, _, S => some (S, [])
  | [o], seen, L, S =>
    if !dstFree nt m seen o then none else
    match mapOp1 E m [] L S.acc seen o with
    | some (e, _) => some (S.put e, [e])
    | none => do
      let e ← stat E S.acc [] o
      if okEff nt seen S.acc [] o e && lowE e then some (S.put e, [e]) else none
  | o :: o2 :: r, seen, L, S =>
    if !dstFree nt m seen o then none else
    match mapOp2 E m L S.acc seen o o2 with
    | some (e, L') =>
      if o2.guard.isSome || !decide (m < nt) || seen.contains m then none else do
      let (S', es) ← mapOps E nt m r (o2.dst.toList ++ (o.dst.toList ++ seen)) L' (S.put e)
      some (S', e :: es)
    | none =>
      match mapOp1 E m (o2 :: r) L S.acc seen o with
      | some (e, L') => do
        let (S', es) ← mapOps E nt m (o2 :: r) (o.dst.toList ++ seen) L' (S.put e)
        some (S', e :: es)
      | none => do
        let e ← stat E S.acc [] o
        if okEff nt seen S.acc [] o e && lowE e then do
          let (S', es) ← mapOps E nt m (o2 :: r) (o.dst.toList ++ seen) L (S.put e)
          some (S', e :: es)
        else none
def isMapOp (o : Oper) : Bool := match o.op with | .makeMap .. | .lookup .. | .mapUpdate .. => true | _ => false
def regOps (F : Fe) (ops : Array Oper) (S : St) : Option (St × List Eff) :=
  match F.mp with
  | none => trOps F.E F.nt ops ops.toList [] S.clean
  | some m =>
    if ops.toList.any isMapOp then mapOps F.E F.nt m ops.toList [] ⟨[], []⟩ S.clean
    else do
      let (S', es) ← trOps F.E F.nt ops ops.toList [] S.clean
      if es.all lowE && ops.toList.all (fun o => o.dst != some m) then some (S', es) else none
def trRegion (F : Fe) (ops : Array Oper) (draw : Bool) (S : St) : Option (St × TC) := do
  let (S', es) ← regOps F ops S
  if draw && (F.mp.isSome || !drawOk F.E ops S.clean) then none else some (S', .effs es)
def findMapOps : List Oper → Option Nat
  | o :: o2 :: r =>
    match o.op, o2.op, o2.dst with
    | .makeMap _ _, .assign _, some m => some m
    | _, _, _ => findMapOps (o2 :: r)
  | _ => none
def findMap : Code → Option Nat
  | .region _ ops _ => findMapOps ops.toList
  | .seq a b => match findMap a with | some m => some m | none => findMap b
  | .cond _ a b => match findMap a with | some m => some m | none => findMap b
  | .block _ c => findMap c
  | .loop c => findMap c
  | .scope c => findMap c
  | _ => none
def resV (E : Env) (A : Acc) : ResultVar → Option (Bool × List CE)
  | .tmp t => opC A [] (.tmp t)
  | .cell a t => do
    let (s, _) ← op1 A [] (.tmp a)
    let g ← isAggT E.P t
    let n ← sizeT E.P t
    match s with
    | .ptr κ j =>
      match ← A.ks κ with
      | .box cs => if j + n ≤ cs.length && (g || n == 1) then some (g, cellsAt (.k κ) j ((cs.drop j).take n)) else none
      | _ => none
    | .arr κ =>
      match ← A.ks κ with
      | .arr u m => if g && n == m && u.isLeaf then some (g, arrCs u (.loc (.k κ 0)) 0 m) else none
      | _ => none
    | _ => none
def retV : List (Bool × List CE) → OpV
  | [v] => .val v.1 v.2
  | vs => .tup vs
def trRet (F : Fe) (A : Acc) : Option (List (Ty × PE)) := do
  let vs ← F.fn.results.toList.mapM (resV F.E A)
  let c ← conv A (F.rt.map fun κ => (κ, some κ)) [(0, F.sg.outSK)] F.sg.outKs [retV vs]
  if c.mvs.map (fun x => (x.1, x.2.1)) != F.sg.outLocs || !nodupB (F.sg.outLocs.map (·.1)) || !nodupB (F.sg.outKs.map (·.1)) then none else
  some (c.mvs.map (·.2))
abbrev Xs := List (Nat × Nf)
def flow (F : Fe) : Code → St → Option (List (Nat × St) × Option St)
  | .skip, S => some ([], some S)
  | .label _, S => some ([], some S)
  | .region _ ops _, S => do let (S', _) ← regOps F ops S; some ([], some S')
  | .seq a b, S => do
    match ← flow F a S with
    | (xs, none) => some (xs, none)
    | (xs, some S1) => do let (ys, r) ← flow F b S1; some (xs ++ ys, r)
  | .cond _ a b, S => do
    let (xs, s) ← flow F a S
    let (ys, t) ← flow F b S
    match s, t with
    | none, t => some (xs ++ ys, t)
    | s, none => some (xs ++ ys, s)
    | some s, some t => some (xs ++ ys, some (join F.rt F.nt s.acc t.acc).st)
  | .block id c, S => do
    let (xs, s) ← flow F c S
    let here := (xs.filter (·.1 == id)).map (·.2) ++ s.toList
    let rest := xs.filter (·.1 != id)
    match here with
    | [] => some (rest, none)
    | h :: r => some (rest, some (r.foldl (fun a b => (join F.rt F.nt a.acc b.acc).st) (join F.rt F.nt h.acc h.acc).st))
  | .loop c, S => do
    let N := join F.rt F.nt S.acc S.acc
    let step (N : Nf) : Option Nf := do
      let (_, s) ← flow F c N.st
      match s with
      | none => some N
      | some s => some (join F.rt F.nt N.st.acc s.acc)
    let N1 ← step N
    let N2 ← if N1 == N then some N1 else step N1
    let N3 ← if N2 == N1 then some N2 else step N2
    let N4 ← if N3 == N2 then some N3 else step N3
    let (xs, _) ← flow F c N4.st
    some (xs, none)
  | .exit id, S => some ([(id, S)], none)
  | .ret, _ => some ([], none)
  | .scope c, S => flow F c S
  | _, _ => none
def head (F : Fe) (c : Code) (S : St) : Option Nf := do
  let N := join F.rt F.nt S.acc S.acc
  let step (N : Nf) : Option Nf := do
    let (_, s) ← flow F c N.st
    match s with
    | none => some N
    | some s => some (join F.rt F.nt N.st.acc s.acc)
  let N1 ← step N
  let N2 ← if N1 == N then some N1 else step N1
  let N3 ← if N2 == N1 then some N2 else step N2
  if N3 == N2 then some N3 else step N3
def tr (F : Fe) : Code → St → Xs → Option (Option Nf × TC × Option St)
  | .skip, S, _ => some (none, .nop, some S)
  | .label _, S, _ => some (none, .nop, some S)
  | .region _ ops d, S, _ => do let (S', c) ← trRegion F ops d S; some (none, c, some S')
  | .seq a b, S, X => do
    match ← tr F a S X with
    | (_, ca, none) => some (none, ca, none)
    | (_, ca, some S1) => do let (_, cb, r) ← tr F b S1 X; some (none, .seq ca cb, r)
  | .cond c a b, S, X => do
    let e ← opT S.acc [] c .bool
    let (_, ca, s) ← tr F a S X
    let (_, cb, t) ← tr F b S X
    match s, t with
    | none, t => some (none, .cond e ca cb, t)
    | s, none => some (none, .cond e ca cb, s)
    | some s, some t =>
      let N := join F.rt F.nt s.acc t.acc
      let ma ← coerce F.rt s.acc N
      let mb ← coerce F.rt t.acc N
      some (none, .cond e (.seq ca (.mv ma .nop)) (.seq cb (.mv mb .nop)), some N.st)
  | .block id c, S, X => do
    let (xs, s) ← flow F c S
    let here := (xs.filter (·.1 == id)).map (·.2) ++ s.toList
    match here with
    | [] => do
      match ← tr F c S (X.filter (·.1 != id)) with
      | (_, cc, none) => some (none, .block id cc, none)
      | _ => none
    | h :: r =>
      let N := r.foldl (fun a b => join F.rt F.nt a.st.acc b.acc) (join F.rt F.nt h.acc h.acc)
      let (_, cc, s') ← tr F c S ((id, N) :: X)
      match s' with
      | none => some (none, .block id cc, some N.st)
      | some s' => do
        let m ← coerce F.rt s'.acc N
        some (none, .block id (.seq cc (.mv m .nop)), some N.st)
  | .loop c, S, X => do
    let N ← head F c S
    let m0 ← coerce F.rt S.acc N
    let (_, cc, s) ← tr F c N.st X
    match s with
    | none => some (none, .mv m0 (.loop [] cc), none)
    | some s => do
      let m ← coerce F.rt s.acc N
      some (none, .mv m0 (.loop [] (.seq cc (.mv m .nop))), none)
  | .exit id, S, X => do
    let N := (← X.find? (·.1 == id)).2
    let m ← coerce F.rt S.acc N
    some (none, .mv m (.exit id), none)
  | .ret, S, _ => do
    let o ← trRet F S.acc
    some (none, .ret o, none)
  | .scope c, S, X => tr F c S X
  | _, _, _ => none
def entryN (sg : Sig) : Nf := ⟨sg.inSl.map fun (i, k) => (i, ⟨[], k⟩), sg.inKs⟩
def entry (sg : Sig) : St := (entryN sg).st
def trFn (E : Env) (fn : Func) (sg : Sig) : Option TC := do
  let c ← fn.body
  if fn.ntmps > 100000 || sg.ins.length > fn.ntmps || !(entryN sg).ok || sg.iks.length > 100000 then none else
  let mp := findMap c
  if mp.isSome && !sg.iks.isEmpty then none else
  let F : Fe := ⟨E, fn, sg, fn.ntmps, sg.roots, mp⟩
  match ← tr F c (entry sg) [] with
  | (_, cc, none) => some cc
  | (_, cc, some s) => do
    let o ← trRet F s.acc
    some (.seq cc (.ret o))
end Rk
set_option linter.unusedVariables false
namespace Rk
open Go
abbrev Res := Option (List Dyn)
abbrev CallF := FuncId → Nat → List Dyn → Res
def updS (ρ : Rho) : List (Loc × Dyn) → Rho
  | [] => ρ
  | (l, d) :: r => fun x => if x = l then d else updS ρ r x
def evs (ρ : Rho) (l : List (Loc × Ty × PE)) : List (Loc × Dyn) := l.map fun x => (x.1, ⟨x.2.1, x.2.2.ev ρ x.2.1⟩)
def allB (ρ : Rho) : List PE → Bool
  | [] => true
  | e :: r => e.evB ρ && allB ρ r
def dyns (ρ : Rho) (l : List (Ty × PE)) : List Dyn := l.map fun x => ⟨x.1, x.2.ev ρ x.1⟩
def zipP : List (Loc × Ty) → List Dyn → List (Loc × Dyn)
  | [], _ => []
  | x :: r, o => (x.1, o.headD default) :: zipP r o.tail
theorem mem_zipP : ∀ (l : List (Loc × Ty)) (o : List Dyn) (y : Loc × Dyn), y ∈ zipP l o → y.1 ∈ l.map (·.1)
  | [], _, y, h => by simp [zipP] at h
  | x :: r, o, y, h => by
    simp only [zipP, List.mem_cons] at h
    rcases h with h | h
    · simp [h]
    · simp only [List.map_cons, List.mem_cons]; exact .inr (mem_zipP r _ y h)
theorem zipP_zip : ∀ (l : List (Loc × Ty)) (o : List Dyn), o.length = l.length → zipP l o = (l.map (·.1)).zip o
  | [], _, _ => rfl
  | x :: r, [], h => by simp at h
  | x :: r, d :: o, h => by simp only [zipP, List.map_cons, List.zip_cons_cons, List.headD_cons, List.tail_cons]; rw [zipP_zip r o (by simpa using h)]
def runE (call : CallF) (e : Eff) (ρ : Rho) : Option Rho :=
  bif allB ρ e.chk then
    match e.call with
    | none => some (updS ρ (evs ρ e.sets))
    | some c =>
      bif allB ρ c.cond then (call c.f c.i (dyns ρ c.args)).bind fun o => some (updS ρ (zipP c.outs o))
      else some (updS ρ (c.outs.map fun x => (x.1, ⟨x.2, x.2.dflt⟩)))
  else none
def runEs (call : CallF) : List Eff → Rho → Option Rho
  | [], ρ => some ρ
  | e :: r, ρ => (runE call e ρ).bind (runEs call r)
def iter : Nat → ((Rho → Res) → Rho → Res) → Rho → Res
  | 0, _, _ => none
  | k + 1, F, ρ => F (iter k F) ρ
def den (call : CallF) (fuel : Nat) : TC → (Rho → Res) → (Nat → Rho → Res) → Rho → Res
  | .nop, κn, _, ρ => κn ρ
  | .effs l, κn, _, ρ => (runEs call l ρ).bind κn
  | .seq a b, κn, κx, ρ => den call fuel a (den call fuel b κn κx) κx ρ
  | .cond e a b, κn, κx, ρ => bif e.evB ρ then den call fuel a κn κx ρ else den call fuel b κn κx ρ
  | .block id a, κn, κx, ρ => den call fuel a κn (fun i ρ => bif i == id then κn ρ else κx i ρ) ρ
  | .loop _ a, _, κx, ρ => iter fuel (fun self => den call fuel a self κx) ρ
  | .exit id, _, κx, ρ => κx id ρ
  | .ret outs, _, _, ρ => some (dyns ρ outs)
  | .mv l a, κn, κx, ρ => den call fuel a κn κx (updS ρ (evs ρ l))
  | .bnd _ _ a b, κn, κx, ρ => den call fuel a (den call fuel b κn κx) κx ρ
abbrev TL := List (Loc × Ty)
def lstTl (f : Ty → TL) : Ty → TL
  | .lst t => f t
  | _ => []
def pairTl (f : Ty → Ty → TL) : Ty → TL
  | .pair a b => f a b
  | _ => []
def PE.tl : PE → Ty → TL
  | .loc l => fun t => [(l, t)]
  | .int _ => fun _ => []
  | .bool _ => fun _ => []
  | .str _ => fun _ => []
  | .ar _ k k2 a b => fun _ => a.tl (.int k) ++ b.tl (.int k2)
  | .cmpI _ k a b => fun _ => a.tl (.int k) ++ b.tl (.int k)
  | .cmpS _ a b => fun _ => a.tl .str ++ b.tl .str
  | .cmpB _ a b => fun _ => a.tl .bool ++ b.tl .bool
  | .neg k a => fun _ => a.tl (.int k)
  | .com k a => fun _ => a.tl (.int k)
  | .conv k a => fun _ => a.tl (.int k)
  | .not a => fun _ => a.tl .bool
  | .cat a b => fun _ => a.tl .str ++ b.tl .str
  | .slen a => fun _ => a.tl .str
  | .sidx a i => fun _ => a.tl .str ++ i.tl (.int .i64)
  | .ssub a lo hi => fun _ => a.tl .str ++ lo.tl (.int .i64) ++ hi.tl (.int .i64)
  | .lnil => fun _ => []
  | .llen t a => fun _ => a.tl (.lst t)
  | .lidx a i => fun t => a.tl (.lst t) ++ i.tl (.int .i64)
  | .lsub a lo hi => lstTl fun t => a.tl (.lst t) ++ lo.tl (.int .i64) ++ hi.tl (.int .i64)
  | .lapp a b => lstTl fun t => a.tl (.lst t) ++ b.tl (.lst t)
  | .lset a i v => lstTl fun t => a.tl (.lst t) ++ i.tl (.int .i64) ++ v.tl t
  | .one a => lstTl fun t => a.tl t
  | .lrep n a => lstTl fun t => n.tl (.int .i64) ++ a.tl t
  | .b2s a => fun _ => a.tl (.lst (.int .u8))
  | .s2b a => fun _ => a.tl .str
  | .fst u a => fun t => a.tl (.pair t u)
  | .snd u a => fun t => a.tl (.pair u t)
  | .pair a b => pairTl fun t u => a.tl t ++ b.tl u
  | .unit => fun _ => []
  | .ite c a b => fun t => c.tl .bool ++ a.tl t ++ b.tl t
  | .and a b => fun _ => a.tl .bool ++ b.tl .bool
  | .imp a b => fun _ => a.tl .bool ++ b.tl .bool
  | .plus a b => fun _ => a.tl (.int .i64) ++ b.tl (.int .i64)
  | .minus a b => fun _ => a.tl (.int .i64) ++ b.tl (.int .i64)
  | .minI k a b => fun _ => a.tl (.int k) ++ b.tl (.int k)
  | .maxI k a b => fun _ => a.tl (.int k) ++ b.tl (.int k)
def uniT (a b : TL) : TL := b.foldl (fun acc x => if acc.contains x then acc else acc ++ [x]) a
def killT (L : TL) (ls : List Loc) : TL := L.filter fun x => !ls.contains x.1
def rd (l : TL) : TL := l.filter fun x => notG x.1
def effTl (e : Eff) : TL :=
  (e.chk.flatMap fun x => x.tl .bool) ++
  match e.call with
  | none => e.sets.flatMap fun x => x.2.2.tl x.2.1
  | some c => (c.cond.flatMap fun x => x.tl .bool) ++ c.args.flatMap fun x => x.2.tl x.1
def effWr (e : Eff) : List Loc :=
  match e.call with
  | none => e.sets.map (·.1)
  | some c => c.outs.map (·.1)
def lvE (e : Eff) (L : TL) : TL := uniT (killT L (effWr e)) (rd (effTl e))
def lookX (X : List (Nat × TL)) (i : Nat) : TL := ((X.find? (·.1 == i)).map (·.2)).getD []
def fixL (f : TL → TL) : Nat → TL → TL
  | 0, V => V
  | n + 1, V => let W := uniT V (f V); if W.length == V.length then V else fixL f n W
def ends : TC → Nat
  | .nop | .effs _ => 1
  | .seq a b => ends a * ends b
  | .bnd _ _ a b => if ends a == 0 then 0 else ends b
  | .cond _ a b => ends a + ends b
  | .block id a => ends a + exits id a
  | .loop _ _ | .exit _ | .ret _ => 0
  | .mv _ a => ends a
  where
  exits (id : Nat) : TC → Nat
  | .nop | .effs _ | .ret _ => 0
  | .seq a b => exits id a + ends a * exits id b
  | .bnd _ _ a b => exits id a + exits id b
  | .cond _ a b => exits id a + exits id b
  | .block _ a => exits id a
  | .loop _ a => exits id a
  | .exit i => if i == id then 1 else 0
  | .mv _ a => exits id a
def ownB : List Nat → TC → Bool
  | _, .nop | _, .effs _ => true
  | X, .seq a b | X, .bnd _ _ a b | X, .cond _ a b => ownB X a && ownB X b
  | X, .block id a => ownB (id :: X) a
  | X, .loop _ a => ownB X a
  | X, .exit i => X.contains i
  | _, .ret _ => false
  | X, .mv _ a => ownB X a
def loopB : TC → Bool
  | .loop _ _ => true
  | .seq a b | .bnd _ _ a b | .cond _ a b => loopB a || loopB b
  | .block _ a => loopB a
  | .mv _ a => loopB a
  | _ => false
def ann : TC → TL → List (Nat × TL) → TC × TL
  | .nop, L, _ => (.nop, L)
  | .effs l, L, _ => (.effs l, l.foldr lvE L)
  | .seq a b, L, X =>
    let q := ann b L X
    let p := ann a q.2 X
    let own := ownB [] p.1
    if Nat.blt 1 (ends p.1) || (own && loopB p.1) then (.bnd q.2 own p.1 q.1, p.2) else (.seq p.1 q.1, p.2)
  | .bnd _ _ a b, L, X => let q := ann b L X; let p := ann a q.2 X; (.seq p.1 q.1, p.2)
  | .cond e a b, L, X => let p := ann a L X; let q := ann b L X; (.cond e p.1 q.1, uniT (rd (e.tl .bool)) (uniT p.2 q.2))
  | .block id a, L, X => let p := ann a L ((id, L) :: X); (.block id p.1, p.2)
  | .loop _ a, _, X => let V := fixL (fun V => (ann a V X).2) 6 []; (.loop V (ann a V X).1, V)
  | .exit id, _, X => (.exit id, lookX X id)
  | .ret outs, _, _ => (.ret outs, uniT [] (rd (outs.flatMap fun x => x.2.tl x.1)))
  | .mv l a, L, X => let p := ann a L X; (.mv l p.1, uniT (killT p.2 (l.map (·.1))) (rd (l.flatMap fun x => x.2.2.tl x.2.1)))
def typedB (L outs : TL) : Bool := L.all fun x => !(outs.map (·.1)).contains x.1 || outs.contains x
def effOkB (e : Eff) (L : TL) : Bool :=
  (effWr e).all notG && match e.call with | none => true | some c => nodupB (c.outs.map (·.1)) && typedB L c.outs
def lvcs : List Eff → TL → Option TL
  | [], L => some L
  | e :: r, L => do
    let L ← lvcs r L
    if effOkB e L then some (lvE e L) else none
def lvc : TC → TL → List (Nat × TL) → Option TL
  | .nop, L, _ => some L
  | .effs l, L, _ => lvcs l L
  | .seq a b, L, X => do lvc a (← lvc b L X) X
  | .bnd V _ a b, L, X => do
    let Lb ← lvc b L X
    if Lb.all (fun x => V.contains x) && nodupB (V.map (·.1)) && V.all (fun x => notG x.1) then lvc a V X else none
  | .cond e a b, L, X => do some (uniT (rd (e.tl .bool)) (uniT (← lvc a L X) (← lvc b L X)))
  | .block id a, L, X => lvc a L ((id, L) :: X)
  | .loop V a, _, X => do
    let La ← lvc a V X
    if La.all (fun x => V.contains x) && nodupB (V.map (·.1)) && V.all (fun x => notG x.1) then some V else none
  | .exit id, _, X => some (lookX X id)
  | .ret outs, _, _ => some (uniT [] (rd (outs.flatMap fun x => x.2.tl x.1)))
  | .mv l a, L, X => do
    let La ← lvc a L X
    if (l.map (·.1)).all notG then some (uniT (killT La (l.map (·.1))) (rd (l.flatMap fun x => x.2.2.tl x.2.1))) else none
structure Prg where
  E : Env
  ext : FuncId → Nat → Option (Nat → List Dyn → Res)
  tabs : Nat → Dyn
def Prg.code (G : Prg) (f : FuncId) (i : Nat) : Option (TC × Sig) := do
  let fn ← G.E.P.funcs[f]?
  let sg ← (G.E.sig f)[i]?
  let tc ← trFn G.E fn sg
  let tc := (ann tc [] []).1
  if (lvc tc [] []).isSome then some (tc, sg) else none
def baseRho (tabs : Nat → Dyn) : Rho := fun
  | .g i => tabs i
  | _ => default
def Prg.init (G : Prg) (sg : Sig) (xs : List Dyn) : Rho := updS (baseRho G.tabs) ((sg.inLocs.map (·.1)).zip xs)
theorem den_ann {call : CallF} {fuel : Nat} : ∀ (tc : TC) (L : TL) (X : List (Nat × TL)) (κn : Rho → Res) (κx : Nat → Rho → Res), den call fuel (ann tc L X).1 κn κx = den call fuel tc κn κx := by
  intro tc
  induction tc with
  | nop => intros; rfl
  | effs l => intros; rfl
  | seq a b iha ihb =>
    intro L X κn κx; funext ρ; simp only [ann]
    split <;> simp only [den] <;> rw [ihb, iha]
  | bnd V o a b iha ihb => intro L X κn κx; funext ρ; simp only [ann, den]; rw [ihb, iha]
  | cond e a b iha ihb => intro L X κn κx; funext ρ; simp only [ann, den]; rw [ihb, iha]
  | block id a ih => intro L X κn κx; funext ρ; simp only [ann, den]; rw [ih]
  | loop V a ih => intro L X κn κx; funext ρ; simp only [ann, den]; simp only [ih]
  | exit id => intros; rfl
  | ret o => intros; rfl
  | mv l a ih => intro L X κn κx; funext ρ; simp only [ann, den]; rw [ih]
theorem Prg.code_spec {G : Prg} {f : FuncId} {i : Nat} {tc : TC} {sg : Sig} (h : G.code f i = some (tc, sg)) :
    ∃ fn tc0, G.E.P.funcs[f]? = some fn ∧ (G.E.sig f)[i]? = some sg ∧ trFn G.E fn sg = some tc0 ∧ tc = (ann tc0 [] []).1 ∧ ∃ L, lvc tc [] [] = some L := by
  simp only [Prg.code, Option.bind_eq_bind, Option.bind_eq_some_iff] at h
  obtain ⟨fn, h1, sg', h2, tc0, h3, h⟩ := h
  split at h
  · rename_i hl
    simp only [Option.some.injEq, Prod.mk.injEq] at h
    obtain ⟨rfl, rfl⟩ := h
    obtain ⟨L, hL⟩ := Option.isSome_iff_exists.1 hl
    exact ⟨fn, tc0, h1, h2, h3, rfl, L, hL⟩
  · simp at h
def sem (G : Prg) : Nat → CallF
  | 0, _, _, _ => none
  | k + 1, f, i, xs =>
    match G.ext f i with
    | some g => g k xs
    | none =>
      match G.code f i with
      | none => none
      | some (tc, sg) => den (sem G k) k tc (fun _ => none) (fun _ _ => none) (G.init sg xs)
end Rk
set_option linter.unusedVariables false
namespace Rk
open Go
def cellAt (w : World) (b o : Nat) : Option Value := w.cell? ⟨b, o, none⟩
def blkSize (w : World) (b : Nat) : Nat :=
  match w.heap[b]? with
  | some (.cells c _ _) => c.size
  | _ => 0
theorem cellAt_of {w : World} {b : Nat} {c : Array Value} {e : TypeId} {fz : Nat × Nat} (h : w.heap[b]? = some (.cells c e fz)) (o : Nat) : cellAt w b o = c[o]? := by
  simp [cellAt, World.cell?, h]
theorem blkSize_of {w : World} {b : Nat} {c : Array Value} {e : TypeId} {fz : Nat × Nat} (h : w.heap[b]? = some (.cells c e fz)) : blkSize w b = c.size := by
  simp [blkSize, h]
theorem cellAt_congr {w w' : World} {b : Nat} (h : w'.heap[b]? = w.heap[b]?) (o : Nat) : cellAt w' b o = cellAt w b o := by
  simp [cellAt, World.cell?, h]
theorem blkSize_congr {w w' : World} {b : Nat} (h : w'.heap[b]? = w.heap[b]?) : blkSize w' b = blkSize w b := by
  simp [blkSize, h]
def RepC (w : World) (I : Nat → Prop) : (t : Ty) → (Nat → Option Value) → t.D → Prop
  | .int k, f, x => f 0 = some (.int k (toI k x))
  | .bool, f, x => f 0 = some (.bool x)
  | .str, f, x => ∃ s : ByteArray, f 0 = some (.string s) ∧ s.data.toList = x
  | .lst t, f, xs => ∃ base len cap, f 0 = some (.slice base len cap) ∧ List.length (α := t.D) xs = len ∧ len ≤ cap ∧
      (len = 0 ∨ ∃ b off, base = some ⟨b, off, none⟩ ∧ I b ∧
        ∀ i (h : i < List.length (α := t.D) xs), RepC w I t (fun j => cellAt w b (off + i * t.n + j)) (List.get (α := t.D) xs ⟨i, h⟩))
  | .unit, _, _ => True
  | .pair a b, f, x => RepC w I a f x.1 ∧ RepC w I b (fun j => f (a.n + j)) x.2
theorem RepC.ext {w w' : World} {I I' : Nat → Prop} (hI : ∀ b, I b → I' b) (hw : ∀ b, I b → ∀ o, cellAt w' b o = cellAt w b o) :
    ∀ (t : Ty) (f : Nat → Option Value) (x : t.D), RepC w I t f x → RepC w' I' t f x
  | .int _, _, _, h => h
  | .bool, _, _, h => h
  | .str, _, _, h => h
  | .unit, _, _, h => h
  | .pair a b, f, x, h => ⟨RepC.ext hI hw a f x.1 h.1, RepC.ext hI hw b _ x.2 h.2⟩
  | .lst t, f, xs, h => by
    obtain ⟨base, len, cap, h0, h1, h2, h3⟩ := h
    refine ⟨base, len, cap, h0, h1, h2, ?_⟩
    rcases h3 with h3 | ⟨b, off, h4, h5, h6⟩
    · exact .inl h3
    · refine .inr ⟨b, off, h4, hI b h5, fun i hi => ?_⟩
      have := RepC.ext hI hw t _ _ (h6 i hi)
      have e : (fun j => cellAt w' b (off + i * t.n + j)) = (fun j => cellAt w b (off + i * t.n + j)) := funext fun j => hw b h5 _
      rw [e]; exact this
theorem RepC.congr {w : World} {I : Nat → Prop} : ∀ (t : Ty) (f g : Nat → Option Value) (x : t.D), (∀ j, j < t.n → f j = g j) → RepC w I t f x → RepC w I t g x
  | .int _, f, g, _, h, hr => by have := h 0 (by simp [Ty.n]); unfold RepC at *; rw [← this]; exact hr
  | .bool, f, g, _, h, hr => by have := h 0 (by simp [Ty.n]); unfold RepC at *; rw [← this]; exact hr
  | .str, f, g, _, h, hr => by have := h 0 (by simp [Ty.n]); unfold RepC at *; rw [← this]; exact hr
  | .lst t, f, g, _, h, hr => by have := h 0 (by simp [Ty.n]); unfold RepC at *; rw [← this]; exact hr
  | .unit, _, _, _, _, _ => trivial
  | .pair a b, f, g, x, h, hr => ⟨RepC.congr a f g x.1 (fun j hj => h j (by simp [Ty.n]; omega)) hr.1,
      RepC.congr b _ _ x.2 (fun j hj => h (a.n + j) (by simp [Ty.n]; omega)) hr.2⟩
structure Mem where
  ks : Nat → Option KSh
  β : Nat → Option Nat
  ρ : Rho
  w : World
  I : Nat → Prop
def content (ρ : Rho) (κ : Nat) (t : Ty) : List t.D := (ρ (.k κ 0)).get (.lst t)
def leafV : Value → Prop
  | .agg _ | .tuple _ => False
  | _ => True
def RowV (M : Mem) (κ : Nat) (t : Ty) (len : Nat) (v : Value) : Prop :=
  ∃ base cap, v = .slice base len cap ∧ len ≤ cap ∧
    match M.β κ with
    | none => base = none ∧ cap = 0
    | some b => base = some ⟨b, 0, none⟩ ∧ cap * t.n ≤ blkSize M.w b
def KSh.lt : KSh → Option Ty
  | .row t | .imm t => some t
  | .arr t _ => some t
  | _ => none
def CellOk (M : Mem) : Sh → Value → Dyn → Prop
  | .dyn t, v, d => RepC M.w M.I t (fun _ => some v) (d.get t)
  | .nil, v, _ => v = .slice none 0 0
  | .nilp, v, _ => v = .pointer none
  | .cap t, v, d => RepC M.w M.I (.lst t) (fun _ => some v) (d.get (.lst t)) ∧ ∃ base len, v = .slice base len len
  | .full κ, v, _ =>
    match M.ks κ with
    | some (.row t) | some (.imm t) => RowV M κ t (content M.ρ κ t).length v
    | some .gone => True
    | _ => False
  | .pre κ, v, d =>
    match M.ks κ with
    | some (.row t) | some (.imm t) => ∃ n : Nat, toI .i64 (d.get (.int .i64)) = n ∧ n ≤ (content M.ρ κ t).length ∧ RowV M κ t n v
    | some .gone => True
    | _ => False
  | .view κ, v, d =>
    match M.ks κ with
    | some (.row t) | some (.imm t) => ∃ o n : Nat, d.get (.pair (.int .i64) (.int .i64)) = ((o : Int), (n : Int)) ∧ o + n ≤ (content M.ρ κ t).length ∧
        ∃ base cap, v = .slice base n cap ∧ n ≤ cap ∧ (n = 0 ∨ ∃ b, M.β κ = some b ∧ base = some ⟨b, o * t.n, none⟩)
    | some .gone => True
    | _ => False
  | .ptr κ j, v, _ =>
    match M.ks κ with
    | some (.box _) => ∃ b, M.β κ = some b ∧ v = .pointer (some ⟨b, j, none⟩)
    | some .gone => True
    | _ => False
  | .arr κ, v, _ =>
    match M.ks κ with
    | some (.arr _ _) => ∃ b, M.β κ = some b ∧ v = .pointer (some ⟨b, 0, none⟩)
    | some .gone => True
    | _ => False
  | .ept κ j, v, d =>
    match M.ks κ with
    | some (.row t) | some (.imm t) | some (.arr t _) => ∃ i : Nat, toI .i64 (d.get (.int .i64)) = i ∧ i < (content M.ρ κ t).length ∧
        ∃ b, M.β κ = some b ∧ v = .pointer (some ⟨b, i * t.n + j, none⟩)
    | some .gone => True
    | _ => False
  | .ipt t j, v, d => ∃ b off, v = .pointer (some ⟨b, off + j, none⟩) ∧ M.I b ∧ RepC M.w M.I t (fun i => cellAt M.w b (off + i)) (d.get t)
  | .gone, _, _ => True
def CellsOk (M : Mem) (mk : Nat → Loc) : Nat → List Sh → List Value → Prop
  | _, [], [] => True
  | j, s :: ss, v :: vs => leafV v ∧ CellOk M s v (M.ρ (mk j)) ∧ CellsOk M mk (j + 1) ss vs
  | _, _, _ => False
def mkV (agg : Bool) (cells : List Value) : Value := if agg then .agg cells.toArray else cells.headD undef
def ValOk (M : Mem) (mk : Nat → Loc) (j : Nat) (V : Val) (v : Value) : Prop :=
  ∃ cells, v = mkV V.agg cells ∧ (V.agg = false → cells.length = 1) ∧ CellsOk M mk j V.cs cells
def ValsOk (M : Mem) (mk : Nat → Loc) : Nat → List Val → List Value → Prop
  | _, [], [] => True
  | j, V :: Vs, v :: vs => ValOk M mk j V v ∧ ValsOk M mk (j + V.cs.length) Vs vs
  | _, _, _ => False
def SKOk (M : Mem) (i : Nat) : SK → Value → Prop
  | .dead, _ => True
  | .val V, v => ValOk M (.s i) 0 V v
  | .tup Vs, v => ∃ xs : List Value, v = .tuple xs.toArray ∧ ValsOk M (.s i) 0 Vs xs
  | .clo f nf Vs, v => ∃ xs ys : List Value, v = .func (.func f) xs.toArray ys.toArray ∧ xs.length = nf ∧ ValsOk M (.s i) 0 Vs (xs ++ ys)
def condOk (ρ : Rho) (c : Cond) : Prop := ∀ x ∈ c, ((ρ (.s x.1 0)).get .bool : Bool) = x.2
def SlotOk (M : Mem) (i : Nat) (s : Slot) (v : Value) : Prop := condOk M.ρ s.cond → SKOk M i s.k v
def Unfz (c : Array Value) (fz : Nat × Nat) : Prop := fz.1 = fz.2 ∨ c.size ≤ fz.1
def RowsIn (M : Mem) (t : Ty) (c : Array Value) (xs : List t.D) : Prop :=
  xs.length * t.n ≤ c.size ∧ (∀ (o : Nat) (v : Value), c[o]? = some v → leafV v) ∧ ∀ i (h : i < xs.length), RepC M.w M.I t (fun j => c[i * t.n + j]?) (xs.get ⟨i, h⟩)
def BlkIs (w : World) (b : Nat) (c : Array Value) : Prop := ∃ e fz, w.heap[b]? = some (.cells c e fz) ∧ Unfz c fz
def KeyOk (M : Mem) (κ : Nat) : KSh → Prop
  | .row t =>
    match M.β κ with
    | none => content M.ρ κ t = []
    | some b => ∃ c, BlkIs M.w b c ∧ RowsIn M t c (content M.ρ κ t)
  | .imm t =>
    match M.β κ with
    | none => content M.ρ κ t = []
    | some b => M.I b ∧ ∃ c, BlkIs M.w b c ∧ RowsIn M t c (content M.ρ κ t)
  | .arr t n => ∃ b c, M.β κ = some b ∧ BlkIs M.w b c ∧ (content M.ρ κ t).length = n ∧ RowsIn M t c (content M.ρ κ t)
  | .box cs => ∃ b c, M.β κ = some b ∧ BlkIs M.w b c ∧ CellsOk M (.k κ) 0 cs c.toList
  | .gone => True
def KSh.priv : KSh → Bool
  | .row _ | .arr _ _ | .box _ => true
  | _ => false
def Priv (ks : Nat → Option KSh) (κ : Nat) : Prop := ∃ k, ks κ = some k ∧ k.priv = true
structure Ctx where
  P : Program
  J : Nat → Prop
  T : Nat → Prop
  w0 : World
  nt : Nat
  tabs : Nat → Dyn
  rts : List Nat
  β0 : Nat → Option Nat
  hrt : ∀ κ ∈ rts, nt ≤ κ ∧ κ < 200000
def Ctx.own (C : Ctx) (b : Nat) : Prop := C.T b ∨ C.w0.heap.size ≤ b
def imms (C : Ctx) (ks : Nat → Option KSh) (β : Nat → Option Nat) (w : World) (b : Nat) : Prop :=
  (C.J b ∨ C.own b) ∧ b < w.heap.size ∧ ∀ κ, Priv ks κ → β κ ≠ some b
def memOf (C : Ctx) (ks : Nat → Option KSh) (β : Nat → Option Nat) (ρ : Rho) (w : World) : Mem := ⟨ks, β, ρ, w, imms C ks β w⟩
structure Keep (C : Ctx) (w : World) : Prop where
  os : w.os = C.w0.os
  tape : w.tape = C.w0.tape
  output : w.output = C.w0.output
  size : C.w0.heap.size ≤ w.heap.size
  block : ∀ b, b < C.w0.heap.size → ¬ C.T b → w.heap[b]? = C.w0.heap[b]?
structure Rel (C : Ctx) (sl : Nat → Slot) (ks : Nat → Option KSh) (ρ : Rho) (β : Nat → Option Nat) (a : Act) (w : World) : Prop where
  inj : ∀ κ κ' b, Priv ks κ → Priv ks κ' → β κ = some b → β κ' = some b → κ = κ'
  own : ∀ κ b, Priv ks κ → β κ = some b → C.own b ∧ b < w.heap.size
  keys : ∀ κ k, ks κ = some k → KeyOk (memOf C ks β ρ w) κ k
  slots : ∀ i, SlotOk (memOf C ks β ρ w) i (sl i) (a.tmps.getD i undef)
  tmps : a.tmps.size = C.nt
  dfr : a.defers = []
  fr : Keep C w
  jt : ∀ b, C.J b → b < C.w0.heap.size ∧ ¬ C.T b
  tt : ∀ b, C.T b → b < C.w0.heap.size
  tab : ∀ g, ρ (.g g) = C.tabs g
  rt : ∀ κ ∈ C.rts, β κ = C.β0 κ
def KC (M M' : Mem) (κ : Nat) : Prop :=
  M'.ks κ = some .gone ∨
  match M.ks κ with
  | some (.row t) => (M'.ks κ = some (.row t) ∨ M'.ks κ = some (.imm t)) ∧ M'.β κ = M.β κ ∧ (content M'.ρ κ t).length = (content M.ρ κ t).length ∧ ∀ b, M.β κ = some b → blkSize M'.w b = blkSize M.w b
  | some (.imm t) => M'.ks κ = some (.imm t) ∧ M'.β κ = M.β κ ∧ (content M'.ρ κ t).length = (content M.ρ κ t).length ∧ ∀ b, M.β κ = some b → blkSize M'.w b = blkSize M.w b
  | some (.arr t n) => M'.ks κ = some (.arr t n) ∧ M'.β κ = M.β κ ∧ (content M'.ρ κ t).length = (content M.ρ κ t).length
  | some (.box _) => (∃ cs, M'.ks κ = some (.box cs)) ∧ M'.β κ = M.β κ
  | some .gone => M'.ks κ = some .gone
  | none => True
theorem RowV.ext {M M' : Mem} {κ : Nat} {t : Ty} {n : Nat} {v : Value} (hβ : M'.β κ = M.β κ) (hb : ∀ b, M.β κ = some b → blkSize M'.w b = blkSize M.w b)
    (h : RowV M κ t n v) : RowV M' κ t n v := by
  obtain ⟨base, cap, h1, h2, h3⟩ := h
  refine ⟨base, cap, h1, h2, ?_⟩
  rw [hβ]
  cases hk : M.β κ with
  | none => rw [hk] at h3; exact h3
  | some b => rw [hk] at h3; simp only at h3 ⊢; rw [hb b hk]; exact h3
theorem CellOk.ext {M M' : Mem} (hI : ∀ b, M.I b → M'.I b) (hw : ∀ b, M.I b → ∀ o, cellAt M'.w b o = cellAt M.w b o) {s : Sh} {v : Value} {d : Dyn}
    (hk : ∀ κ ∈ s.keys, KC M M' κ) (h : CellOk M s v d) : CellOk M' s v d := by
  cases s with
  | dyn t => exact RepC.ext hI hw t _ _ h
  | nil => exact h
  | nilp => exact h
  | cap t => exact ⟨RepC.ext hI hw _ _ _ h.1, h.2⟩
  | gone => trivial
  | ipt t j =>
    obtain ⟨b, off, h1, h2, h3⟩ := h
    refine ⟨b, off, h1, hI b h2, ?_⟩
    have e : (fun i => cellAt M'.w b (off + i)) = (fun i => cellAt M.w b (off + i)) := funext fun i => hw b h2 _
    rw [e]; exact RepC.ext hI hw _ _ _ h3
  | full κ =>
    have hk := hk κ (by simp [Sh.keys])
    simp only [CellOk] at h ⊢
    rcases hk with hg | hk
    · rw [hg]; trivial
    · cases hm : M.ks κ with
      | none => rw [hm] at h; exact h.elim
      | some k =>
        rw [hm] at h hk
        cases k with
        | row t =>
          obtain ⟨h1, h2, h3, h4⟩ := hk
          rcases h1 with h1 | h1 <;> rw [h1] <;> simp only <;> rw [h3] <;> exact RowV.ext h2 h4 h
        | imm t => obtain ⟨h1, h2, h3, h4⟩ := hk; rw [h1]; simp only; rw [h3]; exact RowV.ext h2 h4 h
        | arr t n => exact h.elim
        | box cs => exact h.elim
        | gone => simp only at hk; rw [hk]; trivial
  | pre κ =>
    have hk := hk κ (by simp [Sh.keys])
    simp only [CellOk] at h ⊢
    rcases hk with hg | hk
    · rw [hg]; trivial
    · cases hm : M.ks κ with
      | none => rw [hm] at h; exact h.elim
      | some k =>
        rw [hm] at h hk
        cases k with
        | row t =>
          obtain ⟨h1, h2, h3, h4⟩ := hk
          obtain ⟨n, g1, g2, g3⟩ := h
          rcases h1 with h1 | h1 <;> rw [h1] <;> exact ⟨n, g1, by rw [h3]; exact g2, RowV.ext h2 h4 g3⟩
        | imm t =>
          obtain ⟨h1, h2, h3, h4⟩ := hk
          obtain ⟨n, g1, g2, g3⟩ := h
          rw [h1]; exact ⟨n, g1, by rw [h3]; exact g2, RowV.ext h2 h4 g3⟩
        | arr t n => exact h.elim
        | box cs => exact h.elim
        | gone => simp only at hk; rw [hk]; trivial
  | view κ =>
    have hk := hk κ (by simp [Sh.keys])
    simp only [CellOk] at h ⊢
    rcases hk with hg | hk
    · rw [hg]; trivial
    · cases hm : M.ks κ with
      | none => rw [hm] at h; exact h.elim
      | some k =>
        rw [hm] at h hk
        cases k with
        | row t =>
          obtain ⟨h1, h2, h3, h4⟩ := hk
          obtain ⟨o, n, g1, g2, base, cap, g3, g4, g5⟩ := h
          rcases h1 with h1 | h1 <;> rw [h1] <;> exact ⟨o, n, g1, by rw [h3]; exact g2, base, cap, g3, g4, by rw [h2]; exact g5⟩
        | imm t =>
          obtain ⟨h1, h2, h3, h4⟩ := hk
          obtain ⟨o, n, g1, g2, base, cap, g3, g4, g5⟩ := h
          rw [h1]; exact ⟨o, n, g1, by rw [h3]; exact g2, base, cap, g3, g4, by rw [h2]; exact g5⟩
        | arr t n => exact h.elim
        | box cs => exact h.elim
        | gone => simp only at hk; rw [hk]; trivial
  | ptr κ j =>
    have hk := hk κ (by simp [Sh.keys])
    simp only [CellOk] at h ⊢
    rcases hk with hg | hk
    · rw [hg]; trivial
    · cases hm : M.ks κ with
      | none => rw [hm] at h; exact h.elim
      | some k =>
        rw [hm] at h hk
        cases k with
        | row t => exact h.elim
        | imm t => exact h.elim
        | arr t n => exact h.elim
        | box cs => obtain ⟨⟨cs', h1⟩, h2⟩ := hk; rw [h1, h2]; exact h
        | gone => simp only at hk; rw [hk]; trivial
  | arr κ =>
    have hk := hk κ (by simp [Sh.keys])
    simp only [CellOk] at h ⊢
    rcases hk with hg | hk
    · rw [hg]; trivial
    · cases hm : M.ks κ with
      | none => rw [hm] at h; exact h.elim
      | some k =>
        rw [hm] at h hk
        cases k with
        | row t => exact h.elim
        | imm t => exact h.elim
        | arr t n => obtain ⟨h1, h2, h3⟩ := hk; rw [h1, h2]; exact h
        | box cs => exact h.elim
        | gone => simp only at hk; rw [hk]; trivial
  | ept κ j =>
    have hk := hk κ (by simp [Sh.keys])
    simp only [CellOk] at h ⊢
    rcases hk with hg | hk
    · rw [hg]; trivial
    · cases hm : M.ks κ with
      | none => rw [hm] at h; exact h.elim
      | some k =>
        rw [hm] at h hk
        cases k with
        | row t =>
          obtain ⟨h1, h2, h3, h4⟩ := hk
          rcases h1 with h1 | h1 <;> rw [h1, h2] <;> simp only <;> rw [h3] <;> exact h
        | imm t => obtain ⟨h1, h2, h3, h4⟩ := hk; rw [h1, h2]; simp only; rw [h3]; exact h
        | arr t n => obtain ⟨h1, h2, h3⟩ := hk; rw [h1, h2]; simp only; rw [h3]; exact h
        | box cs => exact h.elim
        | gone => simp only at hk; rw [hk]; trivial
end Rk
set_option linter.unusedVariables false
namespace Rk
open Go
theorem CellsOk.ext {M M' : Mem} {mk : Nat → Loc} (hI : ∀ b, M.I b → M'.I b) (hw : ∀ b, M.I b → ∀ o, cellAt M'.w b o = cellAt M.w b o) :
    ∀ (j : Nat) (ss : List Sh) (vs : List Value), (∀ κ ∈ ss.flatMap Sh.keys, KC M M' κ) → (∀ i, M'.ρ (mk i) = M.ρ (mk i)) → CellsOk M mk j ss vs → CellsOk M' mk j ss vs
  | _, [], [], _, _, _ => trivial
  | j, s :: ss, v :: vs, hk, hρ, h =>
    ⟨h.1, by rw [hρ]; exact CellOk.ext hI hw (fun κ hm => hk κ (by simp [List.flatMap_cons, hm])) h.2.1,
      CellsOk.ext hI hw (j + 1) ss vs (fun κ hm => hk κ (by simp [List.flatMap_cons]; exact .inr (by simpa using hm))) hρ h.2.2⟩
  | _, [], _ :: _, _, _, h => h.elim
  | _, _ :: _, [], _, _, h => h.elim
theorem ValOk.ext {M M' : Mem} {mk : Nat → Loc} (hI : ∀ b, M.I b → M'.I b) (hw : ∀ b, M.I b → ∀ o, cellAt M'.w b o = cellAt M.w b o)
    {j : Nat} {V : Val} {v : Value} (hk : ∀ κ ∈ V.cs.flatMap Sh.keys, KC M M' κ) (hρ : ∀ i, M'.ρ (mk i) = M.ρ (mk i)) (h : ValOk M mk j V v) : ValOk M' mk j V v := by
  obtain ⟨cells, h1, h2, h3⟩ := h
  exact ⟨cells, h1, h2, CellsOk.ext hI hw j _ _ hk hρ h3⟩
theorem ValsOk.ext {M M' : Mem} {mk : Nat → Loc} (hI : ∀ b, M.I b → M'.I b) (hw : ∀ b, M.I b → ∀ o, cellAt M'.w b o = cellAt M.w b o) (hρ : ∀ i, M'.ρ (mk i) = M.ρ (mk i)) :
    ∀ (j : Nat) (Vs : List Val) (vs : List Value), (∀ κ ∈ (Vs.flatMap (·.cs)).flatMap Sh.keys, KC M M' κ) → ValsOk M mk j Vs vs → ValsOk M' mk j Vs vs
  | _, [], [], _, _ => trivial
  | j, V :: Vs, v :: vs, hk, h =>
    ⟨ValOk.ext hI hw (fun κ hm => hk κ (by simp only [List.flatMap_cons, List.flatMap_append, List.mem_append]; exact .inl hm)) hρ h.1,
      ValsOk.ext hI hw hρ _ Vs vs (fun κ hm => hk κ (by simp only [List.flatMap_cons, List.flatMap_append, List.mem_append]; exact .inr hm)) h.2⟩
  | _, [], _ :: _, _, h => h.elim
  | _, _ :: _, [], _, h => h.elim
theorem SKOk.ext {M M' : Mem} (hI : ∀ b, M.I b → M'.I b) (hw : ∀ b, M.I b → ∀ o, cellAt M'.w b o = cellAt M.w b o)
    {i : Nat} {k : SK} {v : Value} (hk : ∀ κ ∈ k.cells.flatMap Sh.keys, KC M M' κ) (hρ : ∀ j, M'.ρ (.s i j) = M.ρ (.s i j)) (h : SKOk M i k v) : SKOk M' i k v := by
  cases k with
  | dead => trivial
  | val V => exact ValOk.ext hI hw hk hρ h
  | tup Vs => obtain ⟨xs, h1, h2⟩ := h; exact ⟨xs, h1, ValsOk.ext hI hw hρ _ _ _ hk h2⟩
  | clo f nf Vs => obtain ⟨xs, ys, h1, h2, h3⟩ := h; exact ⟨xs, ys, h1, h2, ValsOk.ext hI hw hρ _ _ _ hk h3⟩
theorem RowsIn.ext {M M' : Mem} (hI : ∀ b, M.I b → M'.I b) (hw : ∀ b, M.I b → ∀ o, cellAt M'.w b o = cellAt M.w b o)
    {t : Ty} {c : Array Value} {xs : List t.D} (h : RowsIn M t c xs) : RowsIn M' t c xs :=
  ⟨h.1, h.2.1, fun i hi => RepC.ext hI hw _ _ _ (h.2.2 i hi)⟩
theorem BlkIs.congr {w w' : World} {b : Nat} {c : Array Value} (h : w'.heap[b]? = w.heap[b]?) (hb : BlkIs w b c) : BlkIs w' b c := by
  obtain ⟨e, fz, h1, h2⟩ := hb
  exact ⟨e, fz, by rw [h]; exact h1, h2⟩
theorem BlkIs.size {w : World} {b : Nat} {c : Array Value} (h : BlkIs w b c) : blkSize w b = c.size := by
  obtain ⟨e, fz, h1, _⟩ := h
  exact blkSize_of h1
theorem BlkIs.lt {w : World} {b : Nat} {c : Array Value} (h : BlkIs w b c) : b < w.heap.size := by
  obtain ⟨e, fz, h1, _⟩ := h
  rcases Nat.lt_or_ge b w.heap.size with h' | h'
  · exact h'
  · simp [Array.getElem?_eq_none h'] at h1
theorem KeyOk.ext {M M' : Mem} (hI : ∀ b, M.I b → M'.I b) (hw : ∀ b, M.I b → ∀ o, cellAt M'.w b o = cellAt M.w b o)
    {κ : Nat} {k : KSh} (hβ : M'.β κ = M.β κ) (hρ : ∀ j, M'.ρ (.k κ j) = M.ρ (.k κ j)) (hb : ∀ b, M.β κ = some b → M'.w.heap[b]? = M.w.heap[b]?)
    (hk : ∀ κ' ∈ k.keys, KC M M' κ') (h : KeyOk M κ k) : KeyOk M' κ k := by
  have hc : ∀ t, content M'.ρ κ t = content M.ρ κ t := fun t => by unfold content; rw [hρ]
  cases k with
  | row t =>
    simp only [KeyOk] at h ⊢
    rw [hβ, hc]
    cases hm : M.β κ with
    | none => rw [hm] at h; exact h
    | some b => rw [hm] at h; obtain ⟨c, h1, h2⟩ := h; exact ⟨c, h1.congr (hb b hm), h2.ext hI hw⟩
  | imm t =>
    simp only [KeyOk] at h ⊢
    rw [hβ, hc]
    cases hm : M.β κ with
    | none => rw [hm] at h; exact h
    | some b => rw [hm] at h; obtain ⟨h0, c, h1, h2⟩ := h; exact ⟨hI b h0, c, h1.congr (hb b hm), h2.ext hI hw⟩
  | arr t n =>
    obtain ⟨b, c, h0, h1, h2, h3⟩ := h
    refine ⟨b, c, by rw [hβ]; exact h0, h1.congr (hb b h0), ?_, ?_⟩
    · rw [hc]; exact h2
    · rw [hc]; exact h3.ext hI hw
  | box cs =>
    obtain ⟨b, c, h0, h1, h2⟩ := h
    exact ⟨b, c, by rw [hβ]; exact h0, h1.congr (hb b h0), CellsOk.ext hI hw 0 _ _ hk hρ h2⟩
  | gone => trivial
theorem KSh.priv_row (t : Ty) : (KSh.row t).priv = true := rfl
theorem KC.same {C : Ctx} {ks ks' : Nat → Option KSh} {β β' : Nat → Option Nat} {ρ ρ' : Rho} {w w' : World} {κ : Nat}
    (hk : ∀ k, ks κ = some k → KeyOk (memOf C ks β ρ w) κ k)
    (h1 : ks' κ = ks κ) (h2 : β' κ = β κ) (h3 : ∀ j, ρ' (.k κ j) = ρ (.k κ j)) (h4 : ∀ b, β κ = some b → (ks κ).isSome → w'.heap[b]? = w.heap[b]?) :
    KC (memOf C ks β ρ w) (memOf C ks' β' ρ' w') κ := by
  have hc : ∀ t, content ρ' κ t = content ρ κ t := fun t => by unfold content; rw [h3]
  right
  simp only [memOf]
  cases hm : ks κ with
  | none => trivial
  | some k =>
    have h1' := h1
    rw [hm] at h1'
    have hb : ∀ b, β κ = some b → blkSize w' b = blkSize w b := fun b hb => blkSize_congr (h4 b hb (by simp [hm]))
    cases k with
    | row t => exact ⟨.inl h1', h2, by rw [hc], hb⟩
    | imm t => exact ⟨h1', h2, by rw [hc], hb⟩
    | arr t n => exact ⟨h1', h2, by rw [hc]⟩
    | box cs => exact ⟨⟨cs, h1'⟩, h2⟩
    | gone => exact h1'
theorem Rel.upd {C : Ctx} {sl sl' : Nat → Slot} {ks ks' : Nat → Option KSh} {ρ ρ' : Rho} {β β' : Nat → Option Nat} {a a' : Act} {w w' : World}
    (h : Rel C sl ks ρ β a w) (K D : Nat → Prop)
    (hks : ∀ κ, ¬ K κ → ks' κ = ks κ ∧ β' κ = β κ ∧ ∀ j, ρ' (.k κ j) = ρ (.k κ j))
    (hsl : ∀ i, ¬ D i → sl' i = sl i ∧ (∀ j, ρ' (.s i j) = ρ (.s i j)) ∧ a'.tmps.getD i undef = a.tmps.getD i undef)
    (hcd : ∀ i, ¬ D i → ∀ x ∈ (sl i).cond, ¬ D x.1)
    (hkc : ∀ κ, K κ → KC (memOf C ks β ρ w) (memOf C ks' β' ρ' w') κ)
    (hmem : ∀ b, b < w.heap.size → (∀ κ, K κ → Priv ks κ → β κ ≠ some b) → w'.heap[b]? = w.heap[b]?)
    (hsz : w.heap.size ≤ w'.heap.size) (hos : w'.os = w.os) (htape : w'.tape = w.tape) (hout : w'.output = w.output)
    (hown : ∀ κ b, K κ → Priv ks' κ → β' κ = some b → (w.heap.size ≤ b ∧ b < w'.heap.size) ∨ ∃ κ0, K κ0 ∧ Priv ks κ0 ∧ β κ0 = some b)
    (hinj : ∀ κ κ' b, K κ → K κ' → Priv ks' κ → Priv ks' κ' → β' κ = some b → β' κ' = some b → κ = κ')
    (hkeys : ∀ κ k, K κ → ks' κ = some k → KeyOk (memOf C ks' β' ρ' w') κ k)
    (hslots : ∀ i, D i → SlotOk (memOf C ks' β' ρ' w') i (sl' i) (a'.tmps.getD i undef))
    (htm : a'.tmps.size = a.tmps.size) (hdf : a'.defers = a.defers) (htab : ∀ g, ρ' (.g g) = ρ (.g g))
    (hrt : ∀ κ ∈ C.rts, K κ → β' κ = β κ) :
    Rel C sl' ks' ρ' β' a' w' := by
  have hpr : ∀ κ, ¬ K κ → (Priv ks' κ ↔ Priv ks κ) := fun κ hk => by unfold Priv; rw [(hks κ hk).1]
  -- a touched key's block is no untouched one's
  have hap : ∀ κ κ' b, K κ → ¬ K κ' → Priv ks' κ → Priv ks κ' → β' κ = some b → β κ' = some b → False := by
    intro κ κ' b h1 h2 h3 h4 h5 h6
    rcases hown κ b h1 h3 h5 with ⟨g1, g2⟩ | ⟨κ0, g1, g2, g3⟩
    · have := (h.own κ' b h4 h6).2; omega
    · have := h.inj κ0 κ' b g2 h4 g3 h6; subst this; exact h2 g1
  have hI : ∀ b, imms C ks β w b → imms C ks' β' w' b := by
    rintro b ⟨g1, g2, g3⟩
    refine ⟨g1, by omega, fun κ hp hb => ?_⟩
    by_cases hk : K κ
    · rcases hown κ b hk hp hb with ⟨q1, q2⟩ | ⟨κ0, q1, q2, q3⟩
      · omega
      · exact g3 κ0 q2 q3
    · exact g3 κ ((hpr κ hk).1 hp) (by rw [← (hks κ hk).2.1]; exact hb)
  have hIb : ∀ b, imms C ks β w b → w'.heap[b]? = w.heap[b]? := fun b hb => hmem b hb.2.1 (fun κ _ hp hb' => hb.2.2 κ hp hb')
  have hw : ∀ b, imms C ks β w b → ∀ o, cellAt w' b o = cellAt w b o := fun b hb o => cellAt_congr (hIb b hb) o
  -- blocks of untouched keys
  have hub : ∀ κ, ¬ K κ → ∀ k, ks κ = some k → ∀ b, β κ = some b → k ≠ .gone → w'.heap[b]? = w.heap[b]? := by
    intro κ hk k hkk b hb hg
    by_cases hp : k.priv = true
    · have hp' : Priv ks κ := ⟨k, hkk, hp⟩
      refine hmem b (h.own κ b hp' hb).2 (fun κ0 h1 h2 h3 => ?_)
      have := h.inj κ0 κ b h2 hp' h3 hb; subst this; exact hk h1
    · cases k with
      | imm t =>
        have hok := h.keys κ _ hkk
        simp only [KeyOk, memOf] at hok
        rw [hb] at hok
        exact hIb b hok.1
      | gone => exact absurd rfl hg
      | row t => exact absurd rfl hp
      | arr t n => exact absurd rfl hp
      | box cs => exact absurd rfl hp
  have hKC : ∀ κ, KC (memOf C ks β ρ w) (memOf C ks' β' ρ' w') κ := by
    intro κ
    by_cases hk : K κ
    · exact hkc κ hk
    · obtain ⟨g1, g2, g3⟩ := hks κ hk
      by_cases hg : ks κ = some .gone
      · left; simp only [memOf]; rw [g1]; exact hg
      · refine KC.same (fun k hk' => h.keys κ k hk') g1 g2 g3 (fun b hb hs => ?_)
        cases hm : ks κ with
        | none => simp [hm] at hs
        | some k => exact hub κ hk k hm b hb (fun e => hg (by rw [hm, e]))
  refine ⟨?_, ?_, ?_, ?_, ?_, ?_, ?_, h.jt, h.tt, ?_, ?_⟩
  · intro κ κ' b h1 h2 h3 h4
    by_cases hk : K κ <;> by_cases hk' : K κ'
    · exact hinj κ κ' b hk hk' h1 h2 h3 h4
    · exact (hap κ κ' b hk hk' h1 ((hpr κ' hk').1 h2) h3 (by rw [← (hks κ' hk').2.1]; exact h4)).elim
    · exact (hap κ' κ b hk' hk h2 ((hpr κ hk).1 h1) h4 (by rw [← (hks κ hk).2.1]; exact h3)).elim
    · exact h.inj κ κ' b ((hpr κ hk).1 h1) ((hpr κ' hk').1 h2) (by rw [← (hks κ hk).2.1]; exact h3) (by rw [← (hks κ' hk').2.1]; exact h4)
  · intro κ b h1 h2
    by_cases hk : K κ
    · rcases hown κ b hk h1 h2 with ⟨q1, q2⟩ | ⟨κ0, q1, q2, q3⟩
      · exact ⟨.inr (by have := h.fr.size; omega), q2⟩
      · have := h.own κ0 b q2 q3; exact ⟨this.1, by omega⟩
    · have := h.own κ b ((hpr κ hk).1 h1) (by rw [← (hks κ hk).2.1]; exact h2)
      exact ⟨this.1, by omega⟩
  · intro κ k hk'
    by_cases hk : K κ
    · exact hkeys κ k hk hk'
    · obtain ⟨g1, g2, g3⟩ := hks κ hk
      by_cases hg : k = .gone
      · subst hg; trivial
      · exact KeyOk.ext (M := memOf C ks β ρ w) (M' := memOf C ks' β' ρ' w') hI hw g2 g3 (fun b hb => hub κ hk k (by rw [← g1]; exact hk') b hb hg) (fun κ' _ => hKC κ') (h.keys κ k (by rw [← g1]; exact hk'))
  · intro i
    by_cases hd : D i
    · exact hslots i hd
    · obtain ⟨g1, g2, g3⟩ := hsl i hd
      rw [g1, g3]
      intro hc
      refine SKOk.ext (M := memOf C ks β ρ w) (M' := memOf C ks' β' ρ' w') hI hw (fun κ _ => hKC κ) g2 (h.slots i ?_)
      intro x hx
      have := hc x hx
      simp only [memOf] at this ⊢
      rw [(hsl x.1 (hcd i hd x hx)).2.1] at this
      exact this
  · rw [htm]; exact h.tmps
  · rw [hdf]; exact h.dfr
  · exact ⟨hos.trans h.fr.os, htape.trans h.fr.tape, hout.trans h.fr.output, Nat.le_trans h.fr.size hsz, fun b hb hT => by
      have hlt : b < w.heap.size := by have := h.fr.size; omega
      rw [hmem b hlt (fun κ _ hp hb' => ?_), h.fr.block b hb hT]
      rcases (h.own κ b hp hb').1 with q | q
      · exact hT q
      · omega⟩
  · intro g; rw [htab, h.tab]
  · intro κ hκ
    by_cases hk : K κ
    · rw [hrt κ hκ hk, h.rt κ hκ]
    · rw [(hks κ hk).2.1, h.rt κ hκ]
end Rk
set_option linter.unusedVariables false
namespace Rk
open Go
theorem Dyn.get_mk (t : Ty) (v : t.D) : (Dyn.mk t v).get t = v := by simp [Dyn.get]
def CE.dyn (ρ : Rho) (c : CE) : Dyn :=
  match c.1.ty with
  | some t => ⟨t, c.2.ev ρ t⟩
  | none => default
def CEOk (M : Mem) (c : CE) (v : Value) : Prop := leafV v ∧ CellOk M c.1 v (CE.dyn M.ρ c)
def CEsOk (M : Mem) : List CE → List Value → Prop
  | [], [] => True
  | c :: cs, v :: vs => CEOk M c v ∧ CEsOk M cs vs
  | _, _ => False
def VOk (M : Mem) (V : Bool × List CE) (v : Value) : Prop := ∃ cells, v = mkV V.1 cells ∧ (V.1 = false → cells.length = 1) ∧ CEsOk M V.2 cells
def VsOk (M : Mem) : List (Bool × List CE) → List Value → Prop
  | [], [] => True
  | V :: Vs, v :: vs => VOk M V v ∧ VsOk M Vs vs
  | _, _ => False
def OpVOk (M : Mem) : OpV → Value → Prop
  | .val g cs, v => VOk M (g, cs) v
  | .tup Vs, v => ∃ xs : List Value, v = .tuple xs.toArray ∧ VsOk M Vs xs
  | .clo f nf Vs, v => ∃ xs ys : List Value, v = .func (.func f) xs.toArray ys.toArray ∧ xs.length = nf ∧ VsOk M Vs (xs ++ ys)
theorem CellOk.data {M : Mem} {s : Sh} {v : Value} {d d' : Dyn} (h : ∀ t, s.ty = some t → d'.get t = d.get t) (hc : CellOk M s v d) : CellOk M s v d' := by
  cases s with
  | dyn t => simp only [CellOk] at hc ⊢; rw [h t rfl]; exact hc
  | nil => exact hc
  | nilp => exact hc
  | full κ => exact hc
  | pre κ => simp only [CellOk] at hc ⊢; rw [h _ rfl]; exact hc
  | view κ => simp only [CellOk] at hc ⊢; rw [h _ rfl]; exact hc
  | cap t => simp only [CellOk] at hc ⊢; rw [h _ rfl]; exact hc
  | ptr κ j => exact hc
  | arr κ => exact hc
  | ept κ j => simp only [CellOk] at hc ⊢; rw [h _ rfl]; exact hc
  | ipt t j => simp only [CellOk] at hc ⊢; rw [h _ rfl]; exact hc
  | gone => trivial
theorem CE.dyn_loc (ρ : Rho) (s : Sh) (l : Loc) (t : Ty) (h : s.ty = some t) : (CE.dyn ρ (s, .loc l)).get t = (ρ l).get t := by
  simp only [CE.dyn, h, PE.ev]
  exact Dyn.get_mk _ _
theorem CEsOk.of_cells {M : Mem} {mk : Nat → Loc} : ∀ (j : Nat) (ss : List Sh) (vs : List Value), CellsOk M mk j ss vs → CEsOk M (cellsAt mk j ss) vs
  | _, [], [], _ => trivial
  | j, s :: ss, v :: vs, h => ⟨⟨h.1, CellOk.data (fun t ht => CE.dyn_loc M.ρ s _ t ht) h.2.1⟩, CEsOk.of_cells (j + 1) ss vs h.2.2⟩
  | _, [], _ :: _, h => h.elim
  | _, _ :: _, [], h => h.elim
theorem VOk.of_val {M : Mem} {mk : Nat → Loc} {j : Nat} {V : Val} {v : Value} (h : ValOk M mk j V v) : VOk M (V.agg, cellsAt mk j V.cs) v := by
  obtain ⟨cells, h1, h2, h3⟩ := h
  exact ⟨cells, h1, h2, CEsOk.of_cells _ _ _ h3⟩
theorem VsOk.of_vals {M : Mem} {mk : Nat → Loc} : ∀ (j : Nat) (Vs : List Val) (vs : List Value), ValsOk M mk j Vs vs → VsOk M (valsAt mk j Vs) vs
  | _, [], [], _ => trivial
  | j, V :: Vs, v :: vs, h => ⟨VOk.of_val h.1, VsOk.of_vals _ Vs vs h.2⟩
  | _, [], _ :: _, h => h.elim
  | _, _ :: _, [], h => h.elim
theorem OpVOk.of_sk {M : Mem} {i : Nat} {k : SK} {v : Value} {x : OpV} (h : SKOk M i k v)
    (hx : skV i k = some x) : OpVOk M x v := by
  cases k with
  | dead => simp [skV] at hx
  | val w => simp only [skV, Option.some.injEq] at hx; subst hx; exact VOk.of_val h
  | tup vs => simp only [skV, Option.some.injEq] at hx; subst hx; obtain ⟨xs, h1, h2⟩ := h; exact ⟨xs, h1, VsOk.of_vals _ _ _ h2⟩
  | clo f nf vs => simp only [skV, Option.some.injEq] at hx; subst hx; obtain ⟨xs, ys, h1, h2, h3⟩ := h; exact ⟨xs, ys, h1, h2, VsOk.of_vals _ _ _ h3⟩
theorem subCond_ok {ρ : Rho} {a b : Cond} (h : subCond a b = true) (hb : condOk ρ b) : condOk ρ a := by
  intro x hx
  have := List.all_eq_true.1 h x hx
  exact hb x (by simpa using this)
theorem toI_ofI {k : IntKind} {n : Int} (h : k = .u8 → 0 ≤ n ∧ n < 256) : toI k (ofI k n) = n := by
  cases k <;> try rfl
  have := h rfl
  show (((UInt8.ofNat n.toNat).toNat : Nat) : Int) = n
  rw [UInt8.toNat_ofNat']
  omega
theorem CEOk.mkDyn {M : Mem} {t : Ty} {e : PE} {v : Value} (hl : leafV v) (h : RepC M.w M.I t (fun _ => some v) (e.ev M.ρ t)) : CEOk M (.dyn t, e) v := by
  refine ⟨hl, ?_⟩
  simp only [CellOk, CE.dyn, Sh.ty]
  rw [Dyn.get_mk]
  exact h
theorem CEOk.mkInt {M : Mem} {k : IntKind} {e : PE} {n : Int} (h : toI k (e.ev M.ρ (.int k)) = n) : CEOk M (.dyn (.int k), e) (.int k n) := by
  refine CEOk.mkDyn trivial ?_
  simp only [RepC]
  rw [h]
theorem CEOk.mkBool {M : Mem} {e : PE} {b : Bool} (h : e.ev M.ρ .bool = b) : CEOk M (.dyn .bool, e) (.bool b) := by
  refine CEOk.mkDyn trivial ?_
  simp only [RepC]
  rw [h]
theorem CEOk.mkStr {M : Mem} {e : PE} {s : ByteArray} (h : e.ev M.ρ .str = s.data.toList) : CEOk M (.dyn .str, e) (.string s) := by
  refine CEOk.mkDyn trivial ?_
  simp only [RepC]
  exact ⟨s, rfl, h.symm⟩
theorem constC_ok {M : Mem} {v : Value} {c : CE} (h : constC v = some c) : CEOk M c v := by
  unfold constC at h
  split at h
  · rename_i k n
    split at h
    · simp at h
    · rename_i hk
      simp only [Option.some.injEq] at h; subst h
      refine CEOk.mkInt (show toI k (ofI k n) = n from toI_ofI ?_)
      intro e
      subst e
      simpa using hk
  · simp only [Option.some.injEq] at h; subst h
    exact CEOk.mkBool rfl
  · simp only [Option.some.injEq] at h; subst h
    exact CEOk.mkStr rfl
  · simp only [Option.some.injEq] at h; subst h; exact ⟨trivial, rfl⟩
  · simp only [Option.some.injEq] at h; subst h; exact ⟨trivial, rfl⟩
  · simp only [Option.some.injEq] at h; subst h; exact ⟨trivial, trivial⟩
  · simp only [Option.some.injEq] at h; subst h; exact ⟨trivial, trivial⟩
  · simp at h
theorem mapM_consts_ok {M : Mem} : ∀ (vs : List Value) (cs : List CE), vs.mapM constC = some cs → CEsOk M cs vs
  | [], cs, h => by simp at h; subst h; trivial
  | v :: vs, cs, h => by
    simp only [List.mapM_cons, Option.bind_eq_bind, Option.bind_eq_some_iff, Option.pure_def, Option.some.injEq] at h
    obtain ⟨c, h1, ds, h2, rfl⟩ := h
    exact ⟨constC_ok h1, mapM_consts_ok vs ds h2⟩
theorem constC_leaf {v : Value} {c : CE} (h : constC v = some c) : leafV v := (constC_ok (M := ⟨fun _ => none, fun _ => none, fun _ => default, default, fun _ => False⟩) h).1
theorem constV_ok {M : Mem} {v : Value} {r : Bool × List CE} (h : constV v = some r) : VOk M r v := by
  unfold constV at h
  split at h
  · rename_i cs
    simp only [Option.bind_eq_bind, Option.bind_eq_some_iff, Option.some.injEq] at h
    obtain ⟨ds, h1, rfl⟩ := h
    exact ⟨cs.toList, by simp [mkV], by simp, mapM_consts_ok _ _ h1⟩
  · simp only [Option.bind_eq_bind, Option.bind_eq_some_iff, Option.some.injEq] at h
    obtain ⟨c, h1, rfl⟩ := h
    exact ⟨[v], by simp [mkV], by simp, constC_ok h1, trivial⟩
theorem opTmp_ok {C : Ctx} {sl : Nat → Slot} {ks : Nat → Option KSh} {ρ : Rho} {β : Nat → Option Nat} {a : Act} {w : World} (h : Rel C sl ks ρ β a w)
    {cond : Cond} (hc : condOk ρ cond) {t : Nat} {x : OpV} (hx : opTmp ⟨sl, ks⟩ cond t = some x) : OpVOk (memOf C ks β ρ w) x (a.tmps.getD t undef) := by
  simp only [opTmp] at hx
  split at hx
  · rename_i hs
    exact OpVOk.of_sk (h.slots t (subCond_ok hs hc)) hx
  · simp at hx
theorem opV_ok {C : Ctx} {sl : Nat → Slot} {ks : Nat → Option KSh} {ρ : Rho} {β : Nat → Option Nat} {a : Act} {w : World} (h : Rel C sl ks ρ β a w)
    {cond : Cond} (hc : condOk ρ cond) {x : Operand} {r : OpV} (hx : opV ⟨sl, ks⟩ cond x = some r) : OpVOk (memOf C ks β ρ w) r (a.eval x) := by
  cases x with
  | tmp t => exact opTmp_ok h hc hx
  | const v =>
    simp only [opV, Option.bind_eq_bind, Option.bind_eq_some_iff, Option.some.injEq] at hx
    obtain ⟨⟨g, cs⟩, h1, rfl⟩ := hx
    exact constV_ok h1
  | func f =>
    simp only [opV, Option.some.injEq] at hx
    subst hx
    exact ⟨[], [], rfl, rfl, trivial⟩
  | global g => simp [opV] at hx
theorem opC_ok {C : Ctx} {sl : Nat → Slot} {ks : Nat → Option KSh} {ρ : Rho} {β : Nat → Option Nat} {a : Act} {w : World} (h : Rel C sl ks ρ β a w)
    {cond : Cond} (hc : condOk ρ cond) {x : Operand} {r : Bool × List CE} (hx : opC ⟨sl, ks⟩ cond x = some r) : VOk (memOf C ks β ρ w) r (a.eval x) := by
  simp only [opC, Option.bind_eq_bind, Option.bind_eq_some_iff] at hx
  obtain ⟨v, h1, h2⟩ := hx
  cases v with
  | val g cs => simp only [Option.some.injEq] at h2; subst h2; exact opV_ok h hc h1
  | tup _ => simp at h2
  | clo _ _ _ => simp at h2
theorem VOk.one {M : Mem} {c : CE} {v : Value} (h : VOk M (false, [c]) v) : CEOk M c v := by
  obtain ⟨cells, h1, h2, h3⟩ := h
  match cells, h3 with
  | [x], h3 => simp [mkV] at h1; subst h1; exact h3.1
  | [], h3 => exact h3.elim
  | _ :: _ :: _, h3 => exact h3.2.elim
theorem op1_ok {C : Ctx} {sl : Nat → Slot} {ks : Nat → Option KSh} {ρ : Rho} {β : Nat → Option Nat} {a : Act} {w : World} (h : Rel C sl ks ρ β a w)
    {cond : Cond} (hc : condOk ρ cond) {x : Operand} {c : CE} (hx : op1 ⟨sl, ks⟩ cond x = some c) : CEOk (memOf C ks β ρ w) c (a.eval x) := by
  simp only [op1, Option.bind_eq_bind, Option.bind_eq_some_iff] at hx
  obtain ⟨v, h1, h2⟩ := hx
  split at h2
  · simp only [Option.some.injEq] at h2; subst h2; exact VOk.one (opV_ok h hc h1)
  · simp at h2
theorem opT_ok {C : Ctx} {sl : Nat → Slot} {ks : Nat → Option KSh} {ρ : Rho} {β : Nat → Option Nat} {a : Act} {w : World} (h : Rel C sl ks ρ β a w)
    {cond : Cond} (hc : condOk ρ cond) {x : Operand} {t : Ty} {e : PE} (hx : opT ⟨sl, ks⟩ cond x t = some e) :
    RepC w (imms C ks β w) t (fun _ => some (a.eval x)) (e.ev ρ t) := by
  simp only [opT, Option.bind_eq_bind, Option.bind_eq_some_iff] at hx
  obtain ⟨v, h1, h2⟩ := hx
  split at h2
  · rename_i u e'
    split at h2
    · rename_i hu
      simp only [Option.some.injEq] at h2; subst h2
      have hu' : u = t := by simpa using hu
      subst hu'
      have := (op1_ok h hc h1).2
      simp only [CellOk, CE.dyn, Sh.ty, Dyn.get_mk] at this
      exact this
    · simp at h2
  · simp at h2
theorem opI_ok {C : Ctx} {sl : Nat → Slot} {ks : Nat → Option KSh} {ρ : Rho} {β : Nat → Option Nat} {a : Act} {w : World} (h : Rel C sl ks ρ β a w)
    {cond : Cond} (hc : condOk ρ cond) {x : Operand} {k : IntKind} {e : PE} (hx : opI ⟨sl, ks⟩ cond x = some (k, e)) :
    a.eval x = .int k (toI k (e.ev ρ (.int k))) := by
  simp only [opI, Option.bind_eq_bind, Option.bind_eq_some_iff] at hx
  obtain ⟨v, h1, h2⟩ := hx
  split at h2
  · rename_i u e'
    simp only [Option.some.injEq, Prod.mk.injEq] at h2
    obtain ⟨rfl, rfl⟩ := h2
    have := (op1_ok h hc h1).2
    simp only [CellOk, CE.dyn, Sh.ty, Dyn.get_mk, RepC, Option.some.injEq] at this
    exact this
  · simp at h2
def putSl (sl : Nat → Slot) : List (Nat × Slot) → Nat → Slot
  | [] => sl
  | (i, s) :: r => putSl (fun x => if x = i then s else sl x) r
def putKs (ks : Nat → Option KSh) : List (Nat × KSh) → Nat → Option KSh
  | [] => ks
  | (i, s) :: r => putKs (fun x => if x = i then some s else ks x) r
theorem updS_not {ρ : Rho} {l : Loc} : ∀ (xs : List (Loc × Dyn)), (∀ x ∈ xs, x.1 ≠ l) → updS ρ xs l = ρ l
  | [], _ => rfl
  | x :: r, h => by
    simp only [updS]
    rw [if_neg (fun e => h x (by simp) e.symm)]
    exact updS_not r (fun y hy => h y (by simp [hy]))
theorem mem_setCs {mk : Nat → Loc} : ∀ (j : Nat) (cs : List CE) (x : Loc × Ty × PE), x ∈ setCs mk j cs → ∃ i, j ≤ i ∧ x.1 = mk i
  | _, [], _, h => by simp [setCs] at h
  | j, c :: r, x, h => by
    simp only [setCs] at h
    split at h
    · rcases List.mem_cons.1 h with h | h
      · exact ⟨j, Nat.le_refl _, by rw [h]⟩
      · obtain ⟨i, h1, h2⟩ := mem_setCs (j + 1) r x h; exact ⟨i, by omega, h2⟩
    · obtain ⟨i, h1, h2⟩ := mem_setCs (j + 1) r x h; exact ⟨i, by omega, h2⟩
theorem mem_setVs {mk : Nat → Loc} : ∀ (j : Nat) (Vs : List (Bool × List CE)) (x : Loc × Ty × PE), x ∈ setVs mk j Vs → ∃ i, j ≤ i ∧ x.1 = mk i
  | _, [], _, h => by simp [setVs] at h
  | j, V :: r, x, h => by
    simp only [setVs, List.mem_append] at h
    rcases h with h | h
    · exact mem_setCs _ _ _ h
    · obtain ⟨i, h1, h2⟩ := mem_setVs _ r x h; exact ⟨i, by omega, h2⟩
theorem mem_evs {ρ : Rho} {l : List (Loc × Ty × PE)} {y : Loc × Dyn} (h : y ∈ evs ρ l) : ∃ x ∈ l, y.1 = x.1 := by
  simp only [evs, List.mem_map] at h
  obtain ⟨x, h1, h2⟩ := h
  exact ⟨x, h1, by rw [← h2]⟩
theorem evs_append (ρ : Rho) (a b : List (Loc × Ty × PE)) : evs ρ (a ++ b) = evs ρ a ++ evs ρ b := by simp [evs]
def Wrote (ρ ρ' : Rho) (mk : Nat → Loc) : Nat → List CE → Prop
  | _, [] => True
  | j, c :: r => (∀ t, c.1.ty = some t → (ρ' (mk j)).get t = c.2.ev ρ t) ∧ Wrote ρ ρ' mk (j + 1) r
theorem Wrote.mono {ρ ρ1 ρ2 : Rho} {mk : Nat → Loc} : ∀ (j : Nat) (cs : List CE), (∀ i, j ≤ i → ρ2 (mk i) = ρ1 (mk i)) → Wrote ρ ρ1 mk j cs → Wrote ρ ρ2 mk j cs
  | _, [], _, _ => trivial
  | j, c :: r, h, hw => ⟨fun t ht => by rw [h j (Nat.le_refl _)]; exact hw.1 t ht, Wrote.mono (j + 1) r (fun i hi => h i (by omega)) hw.2⟩
theorem wrote_setCs {ρ ρ0 : Rho} {mk : Nat → Loc} (hmk : ∀ i j, mk i = mk j → i = j) :
    ∀ (cs : List CE) (j : Nat) (rest : List (Loc × Dyn)), Wrote ρ (updS ρ0 (evs ρ (setCs mk j cs) ++ rest)) mk j cs
  | [], _, _ => trivial
  | c :: r, j, rest => by
    simp only [setCs]
    cases ht : c.1.ty with
    | some t =>
      simp only [evs, List.map_cons, List.cons_append, updS]
      refine ⟨fun u hu => ?_, ?_⟩
      · rw [ht] at hu
        simp only [Option.some.injEq] at hu
        subst hu
        simp [Dyn.get_mk]
      · refine Wrote.mono (ρ1 := updS ρ0 (evs ρ (setCs mk (j + 1) r) ++ rest)) _ _ (fun i hi => ?_) (wrote_setCs hmk r (j + 1) rest)
        have : mk i ≠ mk j := fun e => by have := hmk _ _ e; omega
        simp [this, evs]
    | none =>
      refine ⟨fun u hu => by rw [ht] at hu; simp at hu, ?_⟩
      exact wrote_setCs hmk r (j + 1) rest
theorem CellsOk.of_wrote {M M' : Mem} {mk : Nat → Loc} :
    ∀ (j : Nat) (cs : List CE) (vs : List Value), Wrote M.ρ M'.ρ mk j cs → (∀ c ∈ cs, ∀ v d, CellOk M c.1 v d → CellOk M' c.1 v d) → CEsOk M cs vs → CellsOk M' mk j (cs.map (·.1)) vs
  | _, [], [], _, _, _ => trivial
  | j, c :: cs, v :: vs, hw, hx, h => by
    refine ⟨h.1.1, ?_, CellsOk.of_wrote (j + 1) cs vs hw.2 (fun c hc => hx c (by simp [hc])) h.2⟩
    refine CellOk.data (fun t ht => ?_) (hx c (by simp) _ _ h.1.2)
    rw [hw.1 t ht]
    simp only [CE.dyn, ht, Dyn.get_mk]
  | _, [], _ :: _, _, _, h => h.elim
  | _, _ :: _, [], _, _, h => h.elim
def WroteV (ρ ρ' : Rho) (mk : Nat → Loc) : Nat → List (Bool × List CE) → Prop
  | _, [] => True
  | j, V :: r => Wrote ρ ρ' mk j V.2 ∧ WroteV ρ ρ' mk (j + V.2.length) r
theorem WroteV.mono {ρ ρ1 ρ2 : Rho} {mk : Nat → Loc} : ∀ (j : Nat) (cs : List (Bool × List CE)), (∀ i, j ≤ i → ρ2 (mk i) = ρ1 (mk i)) → WroteV ρ ρ1 mk j cs → WroteV ρ ρ2 mk j cs
  | _, [], _, _ => trivial
  | j, c :: r, h, hw => ⟨hw.1.mono _ _ h, WroteV.mono _ r (fun i hi => h i (by omega)) hw.2⟩
theorem wrote_setCs' {ρ ρ0 : Rho} {mk : Nat → Loc} (hmk : ∀ i j, mk i = mk j → i = j) (cs : List CE) (j : Nat) (rest : List (Loc × Dyn)) (i : Nat) (hi : j + cs.length ≤ i) :
    updS ρ0 (evs ρ (setCs mk j cs) ++ rest) (mk i) = updS ρ0 rest (mk i) := by
  induction cs generalizing j with
  | nil => rfl
  | cons c r ih =>
    simp only [setCs]
    simp only [List.length_cons] at hi
    cases ht : c.1.ty with
    | some t =>
      simp only [evs, List.map_cons, List.cons_append, updS]
      have : mk i ≠ mk j := fun e => by have := hmk _ _ e; omega
      rw [if_neg this]
      exact ih (j + 1) (by omega)
    | none => exact ih (j + 1) (by omega)
theorem wrote_setVs {ρ ρ0 : Rho} {mk : Nat → Loc} (hmk : ∀ i j, mk i = mk j → i = j) :
    ∀ (Vs : List (Bool × List CE)) (j : Nat) (rest : List (Loc × Dyn)), WroteV ρ (updS ρ0 (evs ρ (setVs mk j Vs) ++ rest)) mk j Vs
  | [], _, _ => trivial
  | V :: r, j, rest => by
    simp only [setVs, evs_append, List.append_assoc]
    refine ⟨wrote_setCs hmk V.2 j _, ?_⟩
    refine WroteV.mono (ρ1 := updS ρ0 (evs ρ (setVs mk (j + V.2.length) r) ++ rest)) _ _ (fun i hi => ?_) (wrote_setVs hmk r (j + V.2.length) rest)
    exact wrote_setCs' hmk V.2 j _ i hi
theorem ValOk.of_wrote {M M' : Mem} {mk : Nat → Loc} {j : Nat} {V : Bool × List CE} {v : Value} (hw : Wrote M.ρ M'.ρ mk j V.2)
    (hx : ∀ c ∈ V.2, ∀ v d, CellOk M c.1 v d → CellOk M' c.1 v d) (h : VOk M V v) : ValOk M' mk j (valOf V) v := by
  obtain ⟨cells, h1, h2, h3⟩ := h
  exact ⟨cells, h1, h2, CellsOk.of_wrote j V.2 cells hw hx h3⟩
theorem ValsOk.of_wrote {M M' : Mem} {mk : Nat → Loc} : ∀ (j : Nat) (Vs : List (Bool × List CE)) (vs : List Value), WroteV M.ρ M'.ρ mk j Vs →
    (∀ V ∈ Vs, ∀ c ∈ V.2, ∀ v d, CellOk M c.1 v d → CellOk M' c.1 v d) → VsOk M Vs vs → ValsOk M' mk j (Vs.map valOf) vs
  | _, [], [], _, _, _ => trivial
  | j, V :: Vs, v :: vs, hw, hx, h => by
    refine ⟨ValOk.of_wrote hw.1 (hx V (by simp)) h.1, ?_⟩
    have : (valOf V).cs.length = V.2.length := by simp [valOf]
    rw [this]
    exact ValsOk.of_wrote _ Vs vs hw.2 (fun V hV => hx V (by simp [hV])) h.2
  | _, [], _ :: _, _, _, h => h.elim
  | _, _ :: _, [], _, _, h => h.elim
def OpV.sk : OpV → SK
  | .val g cs => .val (valOf (g, cs))
  | .tup vs => .tup (vs.map valOf)
  | .clo f nf vs => .clo f nf (vs.map valOf)
def OpV.sets (d : Nat) : OpV → List (Loc × Ty × PE)
  | .val g cs => setCs (.s d) 0 cs
  | .tup vs | .clo _ _ vs => setVs (.s d) 0 vs
def OpV.cells : OpV → List CE
  | .val g cs => cs
  | .tup vs | .clo _ _ vs => vs.flatMap (·.2)
theorem putV_some (cond : Cond) (d : Nat) (v : OpV) : putV cond (some d) v = { sl := [(d, ⟨cond, v.sk⟩)], sets := v.sets d } := by
  cases v <;> rfl
theorem locS_inj (d : Nat) : ∀ i j, Loc.s d i = Loc.s d j → i = j := fun i j h => by injection h
theorem locK_inj (d : Nat) : ∀ i j, Loc.k d i = Loc.k d j → i = j := fun i j h => by injection h
theorem SKOk.of_put {M M' : Mem} {d : Nat} {x : OpV} {v : Value} {rest : List (Loc × Dyn)} (hρ : M'.ρ = updS M.ρ (evs M.ρ (x.sets d) ++ rest))
    (hx : ∀ c ∈ x.cells, ∀ v d, CellOk M c.1 v d → CellOk M' c.1 v d) (h : OpVOk M x v) : SKOk M' d x.sk v := by
  cases x with
  | val g cs => exact ValOk.of_wrote (by rw [hρ]; exact wrote_setCs (locS_inj d) cs 0 rest) hx h
  | tup vs =>
    obtain ⟨xs, h1, h2⟩ := h
    exact ⟨xs, h1, ValsOk.of_wrote _ _ _ (by rw [hρ]; exact wrote_setVs (locS_inj d) vs 0 rest) (fun V hV c hc => hx c (by simp only [OpV.cells, List.mem_flatMap]; exact ⟨V, hV, hc⟩)) h2⟩
  | clo f nf vs =>
    obtain ⟨xs, ys, h1, h0, h2⟩ := h
    exact ⟨xs, ys, h1, h0, ValsOk.of_wrote _ _ _ (by rw [hρ]; exact wrote_setVs (locS_inj d) vs 0 rest) (fun V hV c hc => hx c (by simp only [OpV.cells, List.mem_flatMap]; exact ⟨V, hV, hc⟩)) h2⟩
theorem OpV.mem_sets {d : Nat} {x : OpV} {y : Loc × Ty × PE} (h : y ∈ x.sets d) : ∃ i, y.1 = .s d i := by
  cases x with
  | val g cs => obtain ⟨i, _, h2⟩ := mem_setCs _ _ _ h; exact ⟨i, h2⟩
  | tup vs => obtain ⟨i, _, h2⟩ := mem_setVs _ _ _ h; exact ⟨i, h2⟩
  | clo f nf vs => obtain ⟨i, _, h2⟩ := mem_setVs _ _ _ h; exact ⟨i, h2⟩
theorem OpV.sets_other {ρ : Rho} {d : Nat} {x : OpV} {l : Loc} (h : ∀ i, l ≠ .s d i) : updS ρ (evs ρ (x.sets d)) l = ρ l := by
  refine updS_not _ (fun y hy e => ?_)
  obtain ⟨z, h1, h2⟩ := mem_evs hy
  obtain ⟨i, h3⟩ := OpV.mem_sets h1
  exact h i (by rw [← e, h2, h3])
theorem put_size (a : Act) (d : Option Tmp) (v : Value) : (a.put d v).tmps.size = a.tmps.size := by cases d <;> simp [Act.put]
theorem put_defers (a : Act) (d : Option Tmp) (v : Value) : (a.put d v).defers = a.defers := by cases d <;> rfl
theorem put_other (a : Act) (d : Nat) (v : Value) (i : Nat) (h : i ≠ d) : (a.put (some d) v).tmps.getD i undef = a.tmps.getD i undef := by
  simp only [Act.put, Array.getD_eq_getD_getElem?, Array.getElem?_setIfInBounds]
  rw [if_neg (fun e => h e.symm)]
theorem put_same (a : Act) (d : Nat) (v : Value) (h : d < a.tmps.size) : (a.put (some d) v).tmps.getD d undef = v := by
  simp [Act.put, Array.getD_eq_getD_getElem?, h]
theorem Rel.put {C : Ctx} {sl : Nat → Slot} {ks : Nat → Option KSh} {ρ : Rho} {β : Nat → Option Nat} {a : Act} {w : World} (h : Rel C sl ks ρ β a w)
    {cond : Cond} {d : Nat} {x : OpV} {v : Value} (hd : d < C.nt) (hcd : ∀ i, ∀ y ∈ (sl i).cond, y.1 ≠ d)
    (hv : OpVOk (memOf C ks β ρ w) x v) : Rel C (putSl sl [(d, ⟨cond, x.sk⟩)]) ks (updS ρ (evs ρ (x.sets d))) β (a.put (some d) v) w := by
  have hk : ∀ κ j, updS ρ (evs ρ (x.sets d)) (.k κ j) = ρ (.k κ j) := fun κ j => OpV.sets_other (by simp)
  refine h.upd (fun _ => False) (fun i => i = d) (fun κ _ => ⟨rfl, rfl, hk κ⟩) (fun i hi => ⟨?_, fun j => OpV.sets_other (by intro k; simp; intro e; exact absurd e hi), put_other a d v i hi⟩)
    (fun i _ y hy => hcd i y hy) (fun κ hk => hk.elim) (fun b _ _ => rfl) (Nat.le_refl _) rfl rfl rfl (fun κ b hk => hk.elim) (fun κ κ' b hk => hk.elim) (fun κ k hk => hk.elim)
    (fun i hi => ?_) (put_size _ _ _) (put_defers _ _ _) (fun g => OpV.sets_other (by simp)) (fun _ _ hk => hk.elim)
  · simp [putSl, hi]
  · subst hi
    rw [put_same a i v (by rw [h.tmps]; exact hd)]
    simp only [putSl, if_true]
    intro _
    refine SKOk.of_put (M := memOf C ks β ρ w) (rest := []) (by simp [memOf]) (fun c hc v d hcell => ?_) hv
    exact CellOk.ext (M := memOf C ks β ρ w) (M' := memOf C ks β (updS ρ (evs ρ (x.sets i))) w) (fun b hb => hb) (fun b hb o => rfl) (fun κ _ => KC.same (fun k hk' => h.keys κ k hk') rfl rfl (hk κ) (fun _ _ _ => rfl)) hcell
theorem Rel.skip {C : Ctx} {sl : Nat → Slot} {ks : Nat → Option KSh} {ρ : Rho} {β : Nat → Option Nat} {a : Act} {w : World} (h : Rel C sl ks ρ β a w)
    {cond : Cond} {d : Nat} {k : SK} {ρ' : Rho} (hcd : ∀ i, ∀ y ∈ (sl i).cond, y.1 ≠ d) (hcc : ∀ y ∈ cond, y.1 ≠ d) (hno : ¬ condOk ρ cond)
    (hρ : ∀ l, (∀ i, l ≠ .s d i) → ρ' l = ρ l) : Rel C (putSl sl [(d, ⟨cond, k⟩)]) ks ρ' β (a.put (some d) undef) w := by
  refine h.upd (fun _ => False) (fun i => i = d) (fun κ _ => ⟨rfl, rfl, fun j => hρ _ (by simp)⟩) (fun i hi => ⟨?_, fun j => hρ _ (by intro k; simp; intro e; exact absurd e hi), put_other a d undef i hi⟩)
    (fun i _ y hy => hcd i y hy) (fun κ hk => hk.elim) (fun b _ _ => rfl) (Nat.le_refl _) rfl rfl rfl (fun κ b hk => hk.elim) (fun κ κ' b hk => hk.elim) (fun κ k hk => hk.elim)
    (fun i hi => ?_) (put_size _ _ _) (put_defers _ _ _) (fun g => hρ _ (by simp)) (fun _ _ hk => hk.elim)
  · simp [putSl, hi]
  · subst hi
    simp only [putSl, if_true]
    intro hc
    refine (hno fun y hy => ?_).elim
    have := hc y hy
    simp only [memOf] at this
    rw [hρ _ (by intro k; simp; intro e; exact absurd e (hcc y hy))] at this
    exact this
end Rk
set_option linter.unusedVariables false
namespace Rk
open Go
section
variable {P : Program} {w : World}
theorem run_und {t : TypeId} {d : TypeDesc} (h : P.underlying t = some d) : (underlying t).run P w = .ok d w := by
  simp [underlying, h]
theorem run_ti {t : TypeId} {i : TypeInfo} (h : P.info? t = some i) : (typeInfo t).run P w = .ok i w := by
  simp [typeInfo, h]
theorem run_size {t : TypeId} {n : Nat} (h : sizeT P t = some n) : (Go.sizeOf t).run P w = .ok n w := by
  simp only [sizeT, Option.bind_eq_bind, Option.bind_eq_some_iff, Option.some.injEq] at h
  obtain ⟨i, h1, h2⟩ := h
  simp [Go.sizeOf, run_ti h1, h2]
theorem run_agg {t : TypeId} {g : Bool} (h : isAggT P t = some g) : (isAgg t).run P w = .ok g w := by
  simp only [isAggT, Option.bind_eq_bind, Option.bind_eq_some_iff] at h
  obtain ⟨d, h1, h2⟩ := h
  simp only [isAgg, Sem.run_bind, run_und h1, Result.andThen_ok]
  split at h2 <;> simp only [Option.some.injEq] at h2 <;> subst h2 <;> first
    | rfl
    | (split <;> first | rfl | (rename_i hx _; exact absurd rfl (hx _ _)) | skip)
  all_goals first | rfl | simp_all
theorem lvs_size {t : TypeId} {l : List Ty} (h : lvs P t = some l) : sizeT P t = some l.length ∧ l.all Ty.isLeaf = true := by
  simp only [lvs, Option.bind_eq_bind, Option.bind_eq_some_iff] at h
  obtain ⟨l', h1, i, h2, h3⟩ := h
  split at h3
  · rename_i hc
    simp only [Option.some.injEq] at h3
    subst h3
    simp only [Bool.and_eq_true, beq_iff_eq] at hc
    exact ⟨by simp [sizeT, h2, hc.1], hc.2⟩
  · simp at h3
theorem run_zero {t : TypeId} {r : Bool × List CE} (h : zeroCs P t = some r) : ∃ z, (zeroValue t).run P w = .ok z w ∧ constV z = some r := by
  simp only [zeroCs, Option.bind_eq_bind, Option.bind_eq_some_iff] at h
  obtain ⟨i, h1, z, h2, h3⟩ := h
  exact ⟨z, by simp [zeroValue, run_ti h1, h2], h3⟩
end
def Good (P : Program) (o : Oper) (a : Act) (w : World) (R : Act → World → Prop) : Prop :=
  ∀ (next : Act → World → Prop) (Q : Exit → Act → World → Prop), (∀ a' w', R a' w' → next a' w') → o.wp P a w next Q
theorem Good.value {P : Program} {o : Oper} {a : Act} {w w' : World} {v : Value} {R : Act → World → Prop}
    (hr : (execOp a.eval o).run P w = .ok (.value v) w') (h : R (a.put o.dst v) w') : Good P o a w R := by
  intro next Q hn
  unfold Oper.wp
  rw [hr]
  exact hn _ _ h
theorem Good.skip {P : Program} {o : Oper} {a : Act} {w w' : World} {R : Act → World → Prop}
    (hr : (execOp a.eval o).run P w = .ok .skip w') (h : R (a.put o.dst undef) w') : Good P o a w R := by
  intro next Q hn
  unfold Oper.wp
  rw [hr]
  exact hn _ _ h
theorem Good.enter {P : Program} {o : Oper} {a : Act} {w w' : World} {f : FuncId} {args : Array Value} {R : Act → World → Prop}
    (hr : (execOp a.eval o).run P w = .ok (.enter f args) w') (h : Calls P f args w' fun e w'' => ∃ v, e = .returned v ∧ R (a.put o.dst v) w'') : Good P o a w R := by
  intro next Q hn
  unfold Oper.wp
  rw [hr]
  exact h.mono fun e w'' ⟨v, he, hR⟩ => by subst he; exact hn _ _ hR
theorem condE_ok {A : Acc} {ρ : Rho} : ∀ (c : Cond), condOk ρ c → ∀ e ∈ condE A c, e.evB ρ = true
  | [], _, e, he => by simp [condE] at he
  | (g, wt) :: r, h, e, he => by
    simp only [condE, List.map_cons, List.mem_cons] at he
    rcases he with he | he
    · have h1 : ((ρ (.s g 0)).get .bool : Bool) = wt := h (g, wt) (by simp)
      subst he
      cases wt
      · show (!((ρ (.s g 0)).get .bool : Bool)) = true
        have h2 : ((ρ (.s g 0)).get .bool : Bool) = false := h1
        exact congrArg (fun b : Bool => !b) h2
      · exact h1
    · exact condE_ok (A := A) r (fun x hx => h x (by simp [hx])) e he
theorem condE_of {A : Acc} {ρ : Rho} : ∀ (c : Cond), (∀ e ∈ condE A c, e.evB ρ = true) → condOk ρ c
  | [], _ => fun x hx => by simp at hx
  | (g, wt) :: r, h => by
    intro x hx
    rcases List.mem_cons.1 hx with hx | hx
    · subst hx
      have h1 := h (if wt then .loc (.s g 0) else .not (.loc (.s g 0))) (by simp [condE])
      cases wt
      · have h2 : (!((ρ (.s g 0)).get .bool : Bool)) = true := h1
        show ((ρ (.s g 0)).get .bool : Bool) = false
        revert h2
        generalize ((ρ (.s g 0)).get .bool : Bool) = b
        intro h2
        cases b
        · rfl
        · simp at h2
      · exact h1
    · exact condE_of (A := A) r (fun e he => h e (by simp only [condE, List.map_cons, List.mem_cons]; exact .inr he)) x hx
theorem evB_and (ρ : Rho) (a b : PE) : (PE.and a b).evB ρ = (a.evB ρ && b.evB ρ) := rfl
theorem evB_imp (ρ : Rho) (a b : PE) : (PE.imp a b).evB ρ = (!(a.evB ρ) || b.evB ρ) := rfl
theorem andE_ok {ρ : Rho} : ∀ (l : List PE), (∀ e ∈ l, e.evB ρ = true) → (andE l).evB ρ = true
  | [], _ => rfl
  | [a], h => h a (by simp)
  | a :: b :: r, h => by
    have h1 := h a (by simp)
    have h2 := andE_ok (b :: r) (fun e he => h e (by simp at he ⊢; exact .inr he))
    show (PE.and a (andE (b :: r))).evB ρ = true
    rw [evB_and, h1, h2]; rfl
theorem andE_of {ρ : Rho} : ∀ (l : List PE), (andE l).evB ρ = true → ∀ e ∈ l, e.evB ρ = true
  | [], _, e, he => by simp at he
  | [a], h, e, he => by simp at he; subst he; exact h
  | a :: b :: r, h, e, he => by
    have h' : (PE.and a (andE (b :: r))).evB ρ = true := h
    rw [evB_and, Bool.and_eq_true] at h'
    rcases List.mem_cons.1 he with he | he
    · subst he; exact h'.1
    · exact andE_of (b :: r) h'.2 e he
theorem under_ok {A : Acc} {ρ : Rho} {c : Cond} {e : PE} (hc : condOk ρ c) (h : (under A c e).evB ρ = true) : e.evB ρ = true := by
  unfold under at h
  split at h
  · exact h
  · rw [evB_imp, andE_ok _ (condE_ok c hc)] at h
    simpa using h
theorem allB_mem {ρ : Rho} : ∀ {l : List PE}, allB ρ l = true → ∀ e ∈ l, e.evB ρ = true
  | [], _, e, he => by simp at he
  | a :: r, h, e, he => by
    simp only [allB, Bool.and_eq_true] at h
    rcases List.mem_cons.1 he with he | he
    · subst he; exact h.1
    · exact allB_mem h.2 e he
theorem ev_and {ρ : Rho} {a b : PE} (h : (PE.and a b).evB ρ = true) : a.evB ρ = true ∧ b.evB ρ = true := by
  rw [evB_and, Bool.and_eq_true] at h; exact h
theorem ev_le {ρ : Rho} {a b : PE} (h : (le a b).evB ρ = true) : a.evI ρ ≤ b.evI ρ := by
  have h' : cmpI .leq (a.evI ρ) (b.evI ρ) = true := h
  simpa [cmpI] using h'
theorem ev_lt {ρ : Rho} {a b : PE} (h : (lt a b).evB ρ = true) : a.evI ρ < b.evI ρ := by
  have h' : cmpI .lss (a.evI ρ) (b.evI ρ) = true := h
  simpa [cmpI] using h'
theorem ev_inB {ρ : Rho} {i n : PE} (h : (inB i n).evB ρ = true) : 0 ≤ i.evI ρ ∧ i.evI ρ < n.evI ρ := by
  obtain ⟨h1, h2⟩ := ev_and h
  exact ⟨ev_le h1, ev_lt h2⟩
theorem getD_get {α : Type} {d : α} {l : List α} {n : Nat} (h : n < l.length) : l.getD n d = l.get ⟨n, h⟩ := by
  simp [List.getD, List.getElem?_eq_getElem h]
theorem isLeaf_n {t : Ty} (h : t.isLeaf = true) : t.n = 1 := by
  cases t <;> simp_all [Ty.isLeaf, Ty.n]
theorem RepC.leaf {w : World} {I : Nat → Prop} {t : Ty} (ht : t.isLeaf = true) {f : Nat → Option Value} {x : t.D} (h : RepC w I t f x) :
    ∃ v, f 0 = some v ∧ leafV v ∧ RepC w I t (fun _ => some v) x := by
  cases t with
  | int k => exact ⟨_, h, trivial, rfl⟩
  | bool => exact ⟨_, h, trivial, rfl⟩
  | str => obtain ⟨s, h1, h2⟩ := h; exact ⟨_, h1, trivial, s, rfl, h2⟩
  | lst t => obtain ⟨base, len, cap, h1, h2⟩ := h; exact ⟨_, h1, trivial, base, len, cap, rfl, h2⟩
  | unit => simp [Ty.isLeaf] at ht
  | pair a b => simp [Ty.isLeaf] at ht
theorem tree_n : ∀ (l : List Ty), l.all Ty.isLeaf = true → (tree l).n = l.length
  | [], _ => rfl
  | [a], h => by simp only [tree]; rw [isLeaf_n (by simpa using h)]; rfl
  | a :: b :: r, h => by
    simp only [List.all_cons, Bool.and_eq_true] at h
    have := tree_n (b :: r) (by simp only [List.all_cons, Bool.and_eq_true]; exact h.2)
    simp only [tree, Ty.n] at this ⊢
    rw [this, isLeaf_n h.1]
    simp; omega
theorem RepC.leafs {w : World} {I : Nat → Prop} {ρ : Rho} : ∀ (l : List Ty) (f : Nat → Option Value) (x : (tree l).D) (e : PE), l.all Ty.isLeaf = true →
    RepC w I (tree l) f x → e.ev ρ (tree l) = x → ∀ p, p < l.length → ∃ v, f p = some v ∧ leafV v ∧ RepC w I (l.getD p .unit) (fun _ => some v) ((leafE l p e).ev ρ (l.getD p .unit))
  | [], _, _, _, _, _, _, p, hp => by simp at hp
  | [a], f, x, e, hl, h, he, p, hp => by
    have hp' : p = 0 := by simp at hp; exact hp
    subst hp'
    obtain ⟨v, h1, h2, h3⟩ := RepC.leaf (t := a) (by simpa using hl) h
    refine ⟨v, h1, h2, ?_⟩
    subst he
    exact h3
  | a :: b :: r, f, x, e, hl, h, he, p, hp => by
    simp only [List.all_cons, Bool.and_eq_true] at hl
    subst he
    cases p with
    | zero =>
      obtain ⟨v, h1, h2, h3⟩ := RepC.leaf (t := a) hl.1 h.1
      exact ⟨v, h1, h2, h3⟩
    | succ p =>
      have ih := RepC.leafs (b :: r) (fun j => f (a.n + j)) _ (.snd a e) (by simp only [List.all_cons, Bool.and_eq_true]; exact hl.2) h.2 rfl p (by simp at hp ⊢; omega)
      obtain ⟨v, h1, h2, h3⟩ := ih
      rw [isLeaf_n hl.1, Nat.add_comm] at h1
      exact ⟨v, h1, h2, h3⟩
theorem leafCs_ok {M : Mem} {l : List Ty} {e : PE} {f : Nat → Option Value} (hl : l.all Ty.isLeaf = true) (h : RepC M.w M.I (tree l) f (e.ev M.ρ (tree l))) :
    ∀ (n j : Nat), j + n ≤ l.length → ∃ vs : List Value, vs.length = n ∧ (∀ i, i < n → f (j + i) = vs[i]?) ∧ CEsOk M (leafCs l e j n) vs
  | 0, j, _ => ⟨[], rfl, by simp, trivial⟩
  | n + 1, j, hj => by
    obtain ⟨v, h1, h2, h3⟩ := RepC.leafs l f _ e hl h rfl j (by omega)
    obtain ⟨vs, g1, g2, g3⟩ := leafCs_ok hl h n (j + 1) (by omega)
    refine ⟨v :: vs, by simp [g1], fun i hi => ?_, CEOk.mkDyn h2 h3, g3⟩
    cases i with
    | zero => simpa using h1
    | succ i => have := g2 i (by omega); rw [show j + (i + 1) = j + 1 + i from by omega, this]; simp
theorem addr_add (b o i : Nat) : (⟨b, o, none⟩ : Addr).add i = ⟨b, o + i, none⟩ := by
  unfold Addr.add
  split
  · rename_i h; simp [h]
  · rfl
theorem run_loadVar_cells {P : Program} {w : World} {t : TypeId} {g : Bool} {n b o : Nat} {vs : List Value} (hg : isAggT P t = some g) (hn : sizeT P t = some n)
    (hgn : g = true ∨ n = 1) (hv : vs.length = n) (h : ∀ i, i < n → cellAt w b (o + i) = vs[i]?) : (loadVar t ⟨b, o, none⟩).run P w = .ok (mkV g vs) w := by
  unfold loadVar
  simp only [Sem.run_bind, run_agg hg, Result.andThen_ok]
  cases g with
  | true =>
    simp only [if_true, Sem.run_bind, run_size hn, Result.andThen_ok, Sem.run_pure]
    subst hv
    rw [run_loadCells_list]
    · rfl
    · intro j v hj
      rw [addr_add]
      have hlt : j < vs.length := by
        rcases Nat.lt_or_ge j vs.length with h' | h'
        · exact h'
        · simp [List.getElem?_eq_none h'] at hj
      have := h j hlt
      rw [hj] at this
      exact this
  | false =>
    have h1 : n = 1 := by simpa using hgn
    subst h1
    match vs, hv with
    | [v], _ =>
      have := h 0 (by omega)
      simp only [Nat.add_zero] at this
      have hc : w.cell? ⟨b, o, none⟩ = some v := this
      simp [run_load, hc, mkV]
structure IsPut (cond : Cond) (d : Option Tmp) (e : Eff) (x : OpV) : Prop where
  sl : e.sl = (putV cond d x).sl
  ks : e.ks = []
  sets : e.sets = (putV cond d x).sets
  call : e.call = none
theorem putV_ks (cond : Cond) (d : Option Tmp) (x : OpV) : (putV cond d x).ks = [] := by
  cases d <;> cases x <;> rfl
theorem putV_call (cond : Cond) (d : Option Tmp) (x : OpV) : (putV cond d x).call = none := by
  cases d <;> cases x <;> rfl
theorem putV_chk (cond : Cond) (d : Option Tmp) (x : OpV) : (putV cond d x).chk = [] := by
  cases d <;> cases x <;> rfl
theorem IsPut.of (cond : Cond) (d : Option Tmp) (x : OpV) : IsPut cond d (putV cond d x) x := ⟨rfl, putV_ks _ _ _, rfl, putV_call _ _ _⟩
theorem IsPut.ofChk (cond : Cond) (d : Option Tmp) (x : OpV) (c : List PE) : IsPut cond d { putV cond d x with chk := c } x := ⟨rfl, putV_ks _ _ _, rfl, putV_call _ _ _⟩
theorem CellsOk.length {M : Mem} {mk : Nat → Loc} : ∀ (j : Nat) (ss : List Sh) (vs : List Value), CellsOk M mk j ss vs → ss.length = vs.length
  | _, [], [], _ => rfl
  | j, s :: ss, v :: vs, h => by simp [CellsOk.length (j + 1) ss vs h.2.2]
  | _, [], _ :: _, h => h.elim
  | _, _ :: _, [], h => h.elim
theorem CellsOk.drop {M : Mem} {mk : Nat → Loc} : ∀ (n j : Nat) (ss : List Sh) (vs : List Value), CellsOk M mk j ss vs → CellsOk M mk (j + n) (ss.drop n) (vs.drop n)
  | 0, j, ss, vs, h => h
  | n + 1, j, [], [], h => trivial
  | n + 1, j, s :: ss, v :: vs, h => by
    have := CellsOk.drop n (j + 1) ss vs h.2.2
    simpa [Nat.add_assoc, Nat.add_comm 1 n] using this
  | n + 1, j, [], _ :: _, h => h.elim
  | n + 1, j, _ :: _, [], h => h.elim
theorem CellsOk.take {M : Mem} {mk : Nat → Loc} : ∀ (n j : Nat) (ss : List Sh) (vs : List Value), CellsOk M mk j ss vs → CellsOk M mk j (ss.take n) (vs.take n)
  | 0, j, ss, vs, h => by simp [CellsOk]
  | n + 1, j, [], [], h => trivial
  | n + 1, j, s :: ss, v :: vs, h => ⟨h.1, h.2.1, CellsOk.take n (j + 1) ss vs h.2.2⟩
  | n + 1, j, [], _ :: _, h => h.elim
  | n + 1, j, _ :: _, [], h => h.elim
theorem CEsOk.length {M : Mem} : ∀ (cs : List CE) (vs : List Value), CEsOk M cs vs → cs.length = vs.length
  | [], [], _ => rfl
  | c :: cs, v :: vs, h => by simp [CEsOk.length cs vs h.2]
  | [], _ :: _, h => h.elim
  | _ :: _, [], h => h.elim
theorem arrCs_ok {M : Mem} {u : Ty} {e : PE} {c : Array Value} (hu : u.isLeaf = true) (h : RowsIn M u c (e.ev M.ρ (.lst u))) :
    ∀ (n i : Nat), i + n ≤ List.length (α := u.D) (e.ev M.ρ (.lst u)) → ∃ vs : List Value, vs.length = n ∧ (∀ q, q < n → c[i + q]? = vs[q]?) ∧ CEsOk M (arrCs u e i n) vs
  | 0, i, _ => ⟨[], rfl, by simp, trivial⟩
  | n + 1, i, hi => by
    have h1 := h.2.2 i (by omega)
    obtain ⟨v, g1, g2, g3⟩ := RepC.leaf hu h1
    rw [isLeaf_n hu] at g1
    simp only [Nat.mul_one, Nat.add_zero] at g1
    obtain ⟨vs, q1, q2, q3⟩ := arrCs_ok hu h n (i + 1) (by omega)
    refine ⟨v :: vs, by simp [q1], fun q hq => ?_, CEOk.mkDyn g2 ?_, q3⟩
    · cases q with
      | zero => simpa using g1
      | succ q => have := q2 q (by omega); rw [show i + (q + 1) = i + 1 + q from by omega, this]; simp
    · have hlt : i < List.length (α := u.D) (e.ev M.ρ (.lst u)) := by omega
      have : (PE.lidx e (.int (i : Int))).ev M.ρ u = List.get (α := u.D) (e.ev M.ρ (.lst u)) ⟨i, hlt⟩ := by
        show idx u.dflt (e.ev M.ρ (.lst u)) (i : Int) = _
        unfold idx
        rw [if_neg (by omega), Int.toNat_natCast]
        exact getD_get hlt
      rw [this]
      exact g3
theorem ev_lidx {ρ : Rho} {u : Ty} {e i : PE} {n : Nat} (hi : toI .i64 (i.ev ρ (.int .i64)) = n) (hlt : n < List.length (α := u.D) (e.ev ρ (.lst u))) :
    (PE.lidx e i).ev ρ u = List.get (α := u.D) (e.ev ρ (.lst u)) ⟨n, hlt⟩ := by
  show idx u.dflt (e.ev ρ (.lst u)) (toI .i64 (i.ev ρ (.int .i64))) = _
  rw [hi]
  unfold idx
  rw [if_neg (by omega), Int.toNat_natCast]
  exact getD_get hlt
theorem BlkIs.cell {w : World} {b : Nat} {c : Array Value} (h : BlkIs w b c) (o : Nat) : cellAt w b o = c[o]? := by
  obtain ⟨e, fz, h1, _⟩ := h
  exact cellAt_of h1 o
theorem KeyOk.rows {M : Mem} {κ : Nat} {k : KSh} {t : Ty} (hk : k.lt = some t) (h : KeyOk M κ k) {b : Nat} (hb : M.β κ = some b) :
    ∃ c, BlkIs M.w b c ∧ RowsIn M t c (content M.ρ κ t) := by
  cases k with
  | row u => simp only [KSh.lt, Option.some.injEq] at hk; subst hk; simp only [KeyOk, hb] at h; exact h
  | imm u => simp only [KSh.lt, Option.some.injEq] at hk; subst hk; simp only [KeyOk, hb] at h; exact h.2
  | arr u n =>
    simp only [KSh.lt, Option.some.injEq] at hk; subst hk
    obtain ⟨b', c, h0, h1, _, h3⟩ := h
    rw [hb] at h0; simp only [Option.some.injEq] at h0; subst h0
    exact ⟨c, h1, h3⟩
  | box _ => simp [KSh.lt] at hk
  | gone => simp [KSh.lt] at hk
theorem stLoad_ok {E : Env} {C : Ctx} {sl : Nat → Slot} {ks : Nat → Option KSh} {ρ : Rho} {β : Nat → Option Nat} {a : Act} {w : World} (hE : C.P = E.P)
    (h : Rel C sl ks ρ β a w) {cond : Cond} {d : Option Tmp} {t : TypeId} {c : CE} {v : Value} {e : Eff} (hv : CEOk (memOf C ks β ρ w) c v)
    (hs : stLoad E ⟨sl, ks⟩ cond d t c = some e) : ∃ x r, e = putV cond d x ∧ (Instr.loadAt t v).run C.P w = .ok r w ∧ OpVOk (memOf C ks β ρ w) x r := by
  simp only [stLoad, Option.bind_eq_bind, Option.bind_eq_some_iff] at hs
  obtain ⟨g, hg, n, hn, hs⟩ := hs
  rw [← hE] at hg hn
  -- a load of cells
  have fin : ∀ (b o : Nat) (vs : List Value) (cs : List CE), v = .pointer (some ⟨b, o, none⟩) → (g = true ∨ n = 1) → vs.length = n → (∀ i, i < n → cellAt w b (o + i) = vs[i]?) → CEsOk (memOf C ks β ρ w) cs vs → e = putV cond d (.val g cs) →
      ∃ x r, e = putV cond d x ∧ (Instr.loadAt t v).run C.P w = .ok r w ∧ OpVOk (memOf C ks β ρ w) x r := by
    intro b o vs cs hv hgn hl hc hok he
    refine ⟨.val g cs, mkV g vs, he, ?_, vs, rfl, fun hg' => ?_, hok⟩
    · subst hv
      simp only [Instr.loadAt, Instr.sureAddr, Sem.run_bind, Sem.run_pure, Result.andThen_ok]
      exact run_loadVar_cells hg hn hgn hl hc
    · rw [hl]; rcases hgn with hgn | hgn
      · simp only at hg'; rw [hg'] at hgn; simp at hgn
      · exact hgn
  have hcell := hv.2
  split at hs
  · -- a box
    rename_i κ j e0
    simp only [Option.bind_eq_some_iff] at hs
    obtain ⟨k, hk, hs⟩ := hs
    split at hs
    · rename_i cs
      split at hs
      · rename_i hcond
        simp only [Option.some.injEq] at hs
        simp only [Bool.and_eq_true, Bool.or_eq_true, decide_eq_true_eq, beq_iff_eq] at hcond
        simp only [CellOk, memOf, hk] at hcell
        obtain ⟨b, hb, hvb⟩ := hcell
        have hok := h.keys κ _ hk
        obtain ⟨b', c, h0, h1, h2⟩ := hok
        simp only [memOf] at h0
        rw [hb] at h0; simp only [Option.some.injEq] at h0; subst h0
        have hlen := h2.length
        have h3 := (CellsOk.take n _ _ _ (CellsOk.drop j _ _ _ h2))
        rw [Nat.zero_add] at h3
        refine fin b j ((c.toList.drop j).take n) _ hvb hcond.2 ?_ (fun i hi => ?_) (CEsOk.of_cells _ _ _ h3) hs.symm
        · simp only [List.length_take, List.length_drop]; omega
        · have := h1.cell (j + i)
          simp only [memOf] at this
          rw [this, List.getElem?_take, if_pos hi, List.getElem?_drop, Array.getElem?_toList]
      · simp at hs
    · simp at hs
  · -- an array
    rename_i κ e0
    simp only [Option.bind_eq_some_iff] at hs
    obtain ⟨k, hk, hs⟩ := hs
    split at hs
    · rename_i u m
      split at hs
      · rename_i hcond
        simp only [Option.some.injEq] at hs
        simp only [Bool.and_eq_true, beq_iff_eq] at hcond
        obtain ⟨⟨hg1, hnm⟩, hu⟩ := hcond
        simp only [CellOk, memOf, hk] at hcell
        obtain ⟨b, hb, hvb⟩ := hcell
        have hok := h.keys κ _ hk
        obtain ⟨b', c, h0, h1, h2, h3⟩ := hok
        simp only [memOf] at h0
        rw [hb] at h0; simp only [Option.some.injEq] at h0; subst h0
        have hcon : (PE.loc (.k κ 0)).ev ρ (.lst u) = content ρ κ u := rfl
        obtain ⟨vs, q1, q2, q3⟩ := arrCs_ok (M := memOf C ks β ρ w) (e := .loc (.k κ 0)) hu h3 m 0 (by simp only [memOf]; rw [hcon]; simp only [memOf] at h2; omega)
        refine fin b 0 vs _ hvb (.inl hg1) (by omega) (fun i hi => ?_) q3 hs.symm
        have := h1.cell (0 + i)
        simp only [memOf] at this
        rw [this]
        exact q2 i (by omega)
      · simp at hs
    · simp at hs
  · -- an element
    rename_i κ j e0
    simp only [Option.bind_eq_some_iff] at hs
    obtain ⟨k, hk, hs⟩ := hs
    have key : ∀ u, k.lt = some u → (if (tree u.lv == u && u.lv.all Ty.isLeaf && decide (j + n ≤ u.lv.length) && (g || n == 1)) = true then some (putV cond d (.val g (leafCs u.lv (.lidx (.loc (.k κ 0)) e0) j n))) else none) = some e →
        ∃ x r, e = putV cond d x ∧ (Instr.loadAt t v).run C.P w = .ok r w ∧ OpVOk (memOf C ks β ρ w) x r := by
      intro u hku hs
      split at hs
      · rename_i hcond
        simp only [Option.some.injEq] at hs
        simp only [Bool.and_eq_true, Bool.or_eq_true, decide_eq_true_eq, beq_iff_eq] at hcond
        obtain ⟨⟨⟨htr, hl⟩, hj⟩, hgn⟩ := hcond
        have hex : ∃ i : Nat, toI .i64 ((CE.dyn ρ (.ept κ j, e0)).get (.int .i64)) = i ∧ i < (content ρ κ u).length ∧ ∃ b, β κ = some b ∧ v = .pointer (some ⟨b, i * u.n + j, none⟩) := by
          simp only [CellOk, memOf, hk] at hcell
          cases k with
          | row u' => simp only [KSh.lt, Option.some.injEq] at hku; subst hku; exact hcell
          | imm u' => simp only [KSh.lt, Option.some.injEq] at hku; subst hku; exact hcell
          | arr u' n' => simp only [KSh.lt, Option.some.injEq] at hku; subst hku; exact hcell
          | box _ => simp [KSh.lt] at hku
          | gone => simp [KSh.lt] at hku
        obtain ⟨i, hi, hlt, b, hb, hvb⟩ := hex
        simp only [CE.dyn, Sh.ty] at hi
        rw [Dyn.get_mk] at hi
        obtain ⟨c, h1, h2⟩ := KeyOk.rows hku (h.keys κ _ hk) (b := b) hb
        have h3 := h2.2.2 i hlt
        have hev : (PE.lidx (.loc (.k κ 0)) e0).ev ρ u = (content ρ κ u).get ⟨i, hlt⟩ := ev_lidx (e := .loc (.k κ 0)) hi hlt
        have h4 : RepC (memOf C ks β ρ w).w (memOf C ks β ρ w).I (tree u.lv) (fun q => c[i * u.n + q]?) ((PE.lidx (.loc (.k κ 0)) e0).ev (memOf C ks β ρ w).ρ (tree u.lv)) := by
          rw [htr]
          simp only [memOf] at h3 ⊢
          rw [hev]
          exact h3
        obtain ⟨vs, q1, q2, q3⟩ := leafCs_ok hl h4 n j hj
        refine fin b (i * u.n + j) vs _ hvb hgn q1 (fun p hp => ?_) q3 hs.symm
        have := h1.cell (i * u.n + j + p)
        simp only [memOf] at this
        rw [this, ← q2 p hp, Nat.add_assoc]
      · simp at hs
    split at hs
    · exact key _ rfl hs
    · exact key _ rfl hs
    · exact key _ rfl hs
    · simp at hs
  · -- data that stay
    rename_i u j e0
    split at hs
    · rename_i hcond
      simp only [Option.some.injEq] at hs
      simp only [Bool.and_eq_true, Bool.or_eq_true, decide_eq_true_eq, beq_iff_eq] at hcond
      obtain ⟨⟨⟨htr, hl⟩, hj⟩, hgn⟩ := hcond
      obtain ⟨b, off, hvb, hI, h3⟩ := hcell
      simp only [CE.dyn, Sh.ty] at h3
      rw [Dyn.get_mk] at h3
      have h4 : RepC (memOf C ks β ρ w).w (memOf C ks β ρ w).I (tree u.lv) (fun i => cellAt (memOf C ks β ρ w).w b (off + i)) (e0.ev (memOf C ks β ρ w).ρ (tree u.lv)) := by
        rw [htr]; exact h3
      obtain ⟨vs, q1, q2, q3⟩ := leafCs_ok hl h4 n j hj
      refine fin b (off + j) vs _ hvb hgn q1 (fun p hp => ?_) q3 hs.symm
      have := q2 p hp
      simp only [memOf] at this
      rw [← this, Nat.add_assoc]
    · simp at hs
  · simp at hs
end Rk
set_option linter.unusedVariables false
namespace Rk
open Go
section
variable {C : Ctx} {sl : Nat → Slot} {ks : Nat → Option KSh} {ρ : Rho} {β : Nat → Option Nat} {a : Act} {w : World}
def PE.evL (ρ : Rho) (t : Ty) (e : PE) : List t.D := e.ev ρ (.lst t)
def ListAt (w : World) (I : Nat → Prop) (t : Ty) (v : Value) (xs : List t.D) (J : Nat → Nat → Prop) : Prop :=
  ∃ base cap, v = .slice base xs.length cap ∧ xs.length ≤ cap ∧
    (xs.length = 0 ∨ ∃ b off, base = some ⟨b, off, none⟩ ∧ J b off ∧ ∀ i (h : i < xs.length), RepC w I t (fun j => cellAt w b (off + i * t.n + j)) (xs.get ⟨i, h⟩))
theorem ListAt.of_rep {t : Ty} {v : Value} {xs : List t.D} {I : Nat → Prop} (h : RepC w I (.lst t) (fun _ => some v) xs) : ListAt w I t v xs (fun b _ => I b) := by
  obtain ⟨base, len, cap, h1, h2, h3, h4⟩ := h
  simp only [Option.some.injEq] at h1
  subst h2
  exact ⟨base, cap, h1, h3, h4⟩
theorem ListAt.rep {t : Ty} {v : Value} {xs : List t.D} {I : Nat → Prop} {J : Nat → Nat → Prop} (h : ListAt w I t v xs J) (hJ : ∀ b o, J b o → I b) : RepC w I (.lst t) (fun _ => some v) xs := by
  obtain ⟨base, cap, h1, h2, h3⟩ := h
  refine ⟨base, xs.length, cap, by rw [h1], rfl, h2, ?_⟩
  rcases h3 with h3 | ⟨b, off, g1, g2, g3⟩
  · exact .inl h3
  · exact .inr ⟨b, off, g1, hJ _ _ g2, g3⟩
theorem ListAt.mono {t : Ty} {v : Value} {xs : List t.D} {I : Nat → Prop} {J J' : Nat → Nat → Prop} (h : ListAt w I t v xs J) (hJ : ∀ b o, J b o → J' b o) : ListAt w I t v xs J' := by
  obtain ⟨base, cap, h1, h2, h3⟩ := h
  refine ⟨base, cap, h1, h2, ?_⟩
  rcases h3 with h3 | ⟨b, off, g1, g2, g3⟩
  · exact .inl h3
  · exact .inr ⟨b, off, g1, hJ _ _ g2, g3⟩
theorem sub_length {α : Type} (l : List α) (lo hi : Nat) (h1 : lo ≤ hi) (h2 : hi ≤ l.length) : (sub l (lo : Int) (hi : Int)).length = hi - lo := by
  simp only [sub, Int.toNat_natCast, List.length_drop, List.length_take]
  omega
theorem sub_get {α : Type} (l : List α) (lo hi : Nat) (h2 : hi ≤ l.length) (i : Nat) (h : i < (sub l (lo : Int) (hi : Int)).length) (h' : lo + i < l.length) :
    (sub l (lo : Int) (hi : Int)).get ⟨i, h⟩ = l.get ⟨lo + i, h'⟩ := by
  simp [sub]
theorem get_eq {α : Type} {l l' : List α} (e : l = l') (i : Nat) (h : i < l.length) (h' : i < l'.length) : l.get ⟨i, h⟩ = l'.get ⟨i, h'⟩ := by
  subst e; rfl
def inRow (β : Nat → Option Nat) (κ : Nat) (t : Ty) (o : Nat) : Nat → Nat → Prop := fun b off => β κ = some b ∧ off = o * t.n
theorem KSh.cases_lt {k : KSh} {t : Ty} (h : k.lt = some t) : k = .row t ∨ k = .imm t ∨ ∃ n, k = .arr t n := by
  cases k <;> simp [KSh.lt] at h
  · subst h; exact .inl rfl
  · rename_i u n; subst h; exact .inr (.inr ⟨n, rfl⟩)
  · subst h; exact .inr (.inl rfl)
theorem KeyOk.at {M : Mem} {κ : Nat} {k : KSh} {t : Ty} (hk : k.lt = some t) (h : KeyOk M κ k) {b : Nat} (hb : M.β κ = some b) (i : Nat) (hi : i < (content M.ρ κ t).length) :
    RepC M.w M.I t (fun j => cellAt M.w b (i * t.n + j)) ((content M.ρ κ t).get ⟨i, hi⟩) := by
  obtain ⟨c, h1, h2⟩ := KeyOk.rows hk h hb
  have := h2.2.2 i hi
  have e : (fun j => cellAt M.w b (i * t.n + j)) = (fun j => c[i * t.n + j]?) := funext fun j => h1.cell _
  rw [e]; exact this
def ReadJ (C : Ctx) (sl : Nat → Slot) (ks : Nat → Option KSh) (ρ : Rho) (β : Nat → Option Nat) (w : World) (c : CE) (u : Ty) (n : Nat) : Nat → Nat → Prop :=
  fun b off => match rowK ⟨sl, ks⟩ c.1 with
    | none => imms C ks β w b
    | some κ => ks κ = some (.row u) ∧ β κ = some b ∧ ∃ o, off = o * u.n ∧ o + n ≤ (content ρ κ u).length ∧
        (match c.1 with | .view _ => o = ((PE.fst (.int .i64) c.2).evI ρ).toNat ∧ 0 ≤ (PE.fst (.int .i64) c.2).evI ρ | _ => o = 0)
theorem readL_ok (h : Rel C sl ks ρ β a w) {c : CE} {v : Value} (hv : CEOk (memOf C ks β ρ w) c v) {u : Ty} {r : PE} (hr : readL ⟨sl, ks⟩ c = some (u, r)) :
    ListAt w (imms C ks β w) u v (r.evL ρ u) (ReadJ C sl ks ρ β w c u (r.evL ρ u).length) := by
  obtain ⟨s, e⟩ := c
  have hc := hv.2
  cases s with
  | dyn t =>
    cases t with
    | lst t =>
      simp only [readL, Option.some.injEq, Prod.mk.injEq] at hr
      obtain ⟨rfl, rfl⟩ := hr
      simp only [CellOk, CE.dyn, Sh.ty] at hc
      rw [Dyn.get_mk] at hc
      exact ListAt.of_rep hc
    | _ => simp [readL] at hr
  | cap t =>
    simp only [readL, Option.some.injEq, Prod.mk.injEq] at hr
    obtain ⟨rfl, rfl⟩ := hr
    simp only [CellOk, CE.dyn, Sh.ty] at hc
    rw [Dyn.get_mk] at hc
    exact ListAt.of_rep hc.1
  | full κ =>
    simp only [readL, Option.bind_eq_bind, Option.bind_eq_some_iff] at hr
    obtain ⟨k, hk, hr⟩ := hr
    have key : ∀ t, k.lt = some t → (∀ n, k ≠ .arr t n) → r = .loc (.k κ 0) → u = t → ListAt w (imms C ks β w) u v (r.evL ρ u) (ReadJ C sl ks ρ β w (.full κ, e) u (r.evL ρ u).length) := by
      intro t hkt hna hr hu
      subst hu hr
      have hrow : RowV (memOf C ks β ρ w) κ u (content ρ κ u).length v := by
        simp only [CellOk, memOf, hk] at hc ⊢
        rcases KSh.cases_lt hkt with rfl | rfl | ⟨n, rfl⟩
        · exact hc
        · exact hc
        · exact absurd rfl (hna n)
      obtain ⟨base, cap, g1, g2, g3⟩ := hrow
      refine ⟨base, cap, g1, g2, ?_⟩
      simp only [memOf] at g3
      cases hb : β κ with
      | none =>
        left
        have hok := h.keys κ k hk
        rcases KSh.cases_lt hkt with rfl | rfl | ⟨n, rfl⟩
        · simp only [KeyOk, memOf, hb] at hok; show (content ρ κ u).length = 0; rw [hok]; rfl
        · simp only [KeyOk, memOf, hb] at hok; show (content ρ κ u).length = 0; rw [hok]; rfl
        · exact absurd rfl (hna n)
      | some b =>
        right
        rw [hb] at g3
        refine ⟨b, 0, g3.1, ?_, fun i hi => ?_⟩
        · simp only [ReadJ, rowK, hk]
          rcases KSh.cases_lt hkt with rfl | rfl | ⟨n, rfl⟩
          · exact ⟨hk, hb, 0, by simp, by show 0 + (content ρ κ u).length ≤ _; omega, rfl⟩
          · have hok := h.keys κ _ hk
            simp only [KeyOk, memOf, hb] at hok
            exact hok.1
          · exact absurd rfl (hna n)
        · have := KeyOk.at hkt (h.keys κ k hk) (b := b) hb i hi
          have e : (fun j => cellAt w b (0 + i * u.n + j)) = (fun j => cellAt w b (i * u.n + j)) := funext fun j => by rw [Nat.zero_add]
          rw [e]; exact this
    split at hr
    · simp only [Option.some.injEq, Prod.mk.injEq] at hr; exact key _ rfl (by simp) hr.2.symm hr.1.symm
    · simp only [Option.some.injEq, Prod.mk.injEq] at hr; exact key _ rfl (by simp) hr.2.symm hr.1.symm
    · simp at hr
  | pre κ =>
    simp only [readL, Option.bind_eq_bind, Option.bind_eq_some_iff] at hr
    obtain ⟨k, hk, hr⟩ := hr
    have key : ∀ t, k.lt = some t → (∀ n, k ≠ .arr t n) → r = .lsub (.loc (.k κ 0)) (.int 0) e → u = t → ListAt w (imms C ks β w) u v (r.evL ρ u) (ReadJ C sl ks ρ β w (.pre κ, e) u (r.evL ρ u).length) := by
      intro t hkt hna hr hu
      subst hu hr
      have hrow : ∃ n : Nat, e.evI ρ = n ∧ n ≤ (content ρ κ u).length ∧ RowV (memOf C ks β ρ w) κ u n v := by
        simp only [CellOk, memOf, hk, CE.dyn, Sh.ty] at hc ⊢
        rw [Dyn.get_mk] at hc
        rcases KSh.cases_lt hkt with rfl | rfl | ⟨n, rfl⟩
        · exact hc
        · exact hc
        · exact absurd rfl (hna n)
      obtain ⟨n, hn, hle, base, cap, g1, g2, g3⟩ := hrow
      have hxs : (PE.lsub (.loc (.k κ 0)) (.int 0) e).evL ρ u = sub (content ρ κ u) ((0 : Nat) : Int) (n : Int) := by
        show sub (content ρ κ u) (0 : Int) (e.evI ρ) = _
        rw [hn]; rfl
      have hlen : ((PE.lsub (.loc (.k κ 0)) (.int 0) e).evL ρ u).length = n := by rw [hxs, sub_length _ _ _ (Nat.zero_le _) hle]; omega
      refine ⟨base, cap, by rw [hlen]; exact g1, by rw [hlen]; exact g2, ?_⟩
      simp only [memOf] at g3
      cases hb : β κ with
      | none =>
        left
        rw [hb] at g3
        rw [hlen]
        omega
      | some b =>
        right
        rw [hb] at g3
        refine ⟨b, 0, g3.1, ?_, fun i hi => ?_⟩
        · rw [hlen]
          simp only [ReadJ, rowK, hk]
          rcases KSh.cases_lt hkt with rfl | rfl | ⟨n, rfl⟩
          · exact ⟨hk, hb, 0, by simp, by omega, rfl⟩
          · have hok := h.keys κ _ hk
            simp only [KeyOk, memOf, hb] at hok
            exact hok.1
          · exact absurd rfl (hna n)
        · have hi' : i < (content ρ κ u).length := by omega
          have := KeyOk.at hkt (h.keys κ k hk) (b := b) hb i hi'
          have e2 : ((PE.lsub (.loc (.k κ 0)) (.int 0) e).evL ρ u).get ⟨i, hi⟩ = (content ρ κ u).get ⟨i, hi'⟩ := by
            have hi2 : i < (sub (content ρ κ u) ((0 : Nat) : Int) (n : Int)).length := by rw [← hxs]; exact hi
            rw [get_eq hxs i hi hi2, sub_get _ 0 n hle i hi2 (by omega)]
            simp
          rw [e2]
          have e : (fun j => cellAt w b (0 + i * u.n + j)) = (fun j => cellAt w b (i * u.n + j)) := funext fun j => by rw [Nat.zero_add]
          rw [e]; exact this
    split at hr
    · simp only [Option.some.injEq, Prod.mk.injEq] at hr; exact key _ rfl (by simp) hr.2.symm hr.1.symm
    · simp only [Option.some.injEq, Prod.mk.injEq] at hr; exact key _ rfl (by simp) hr.2.symm hr.1.symm
    · simp at hr
  | view κ =>
    simp only [readL, Option.bind_eq_bind, Option.bind_eq_some_iff] at hr
    obtain ⟨k, hk, hr⟩ := hr
    have key : ∀ t, k.lt = some t → (∀ n, k ≠ .arr t n) → r = .lsub (.loc (.k κ 0)) (.fst (.int .i64) e) (.plus (.fst (.int .i64) e) (.snd (.int .i64) e)) → u = t → ListAt w (imms C ks β w) u v (r.evL ρ u) (ReadJ C sl ks ρ β w (.view κ, e) u (r.evL ρ u).length) := by
      intro t hkt hna hr hu
      subst hu hr
      have hrow : ∃ o n : Nat, (PE.fst (.int .i64) e).evI ρ = o ∧ (PE.snd (.int .i64) e).evI ρ = n ∧ o + n ≤ (content ρ κ u).length ∧
          ∃ base cap, v = .slice base n cap ∧ n ≤ cap ∧ (n = 0 ∨ ∃ b, β κ = some b ∧ base = some ⟨b, o * u.n, none⟩) := by
        simp only [CellOk, memOf, hk, CE.dyn, Sh.ty] at hc
        rw [Dyn.get_mk] at hc
        have hc' : ∃ o n : Nat, e.ev ρ (.pair (.int .i64) (.int .i64)) = ((o : Int), (n : Int)) ∧ o + n ≤ (content ρ κ u).length ∧
            ∃ base cap, v = .slice base n cap ∧ n ≤ cap ∧ (n = 0 ∨ ∃ b, β κ = some b ∧ base = some ⟨b, o * u.n, none⟩) := by
          rcases KSh.cases_lt hkt with rfl | rfl | ⟨n, rfl⟩
          · exact hc
          · exact hc
          · exact absurd rfl (hna n)
        obtain ⟨o, n, q1, q2⟩ := hc'
        refine ⟨o, n, ?_, ?_, q2⟩
        · show (e.ev ρ (.pair (.int .i64) (.int .i64))).1 = (o : Int)
          rw [q1]
        · show (e.ev ρ (.pair (.int .i64) (.int .i64))).2 = (n : Int)
          rw [q1]
      obtain ⟨o, n, ho, hn, hle, base, cap, g1, g2, g3⟩ := hrow
      have hxs : (PE.lsub (.loc (.k κ 0)) (.fst (.int .i64) e) (.plus (.fst (.int .i64) e) (.snd (.int .i64) e))).evL ρ u = sub (content ρ κ u) (o : Int) ((o + n : Nat) : Int) := by
        show sub (content ρ κ u) ((PE.fst (.int .i64) e).evI ρ) ((PE.fst (.int .i64) e).evI ρ + (PE.snd (.int .i64) e).evI ρ) = _
        rw [ho, hn]; rfl
      have hlen : ((PE.lsub (.loc (.k κ 0)) (.fst (.int .i64) e) (.plus (.fst (.int .i64) e) (.snd (.int .i64) e))).evL ρ u).length = n := by
        rw [hxs, sub_length _ _ _ (by omega) hle]; omega
      refine ⟨base, cap, by rw [hlen]; exact g1, by rw [hlen]; exact g2, ?_⟩
      rcases g3 with g3 | ⟨b, hb, g3⟩
      · exact .inl (by rw [hlen]; exact g3)
      · right
        refine ⟨b, o * u.n, g3, ?_, fun i hi => ?_⟩
        · rw [hlen]
          simp only [ReadJ, rowK, hk]
          rcases KSh.cases_lt hkt with rfl | rfl | ⟨n, rfl⟩
          · exact ⟨hk, hb, o, rfl, by omega, by rw [ho]; simp⟩
          · have hok := h.keys κ _ hk
            simp only [KeyOk, memOf, hb] at hok
            exact hok.1
          · exact absurd rfl (hna n)
        · have hi' : o + i < (content ρ κ u).length := by omega
          have := KeyOk.at hkt (h.keys κ k hk) (b := b) hb (o + i) hi'
          have e2 : ((PE.lsub (.loc (.k κ 0)) (.fst (.int .i64) e) (.plus (.fst (.int .i64) e) (.snd (.int .i64) e))).evL ρ u).get ⟨i, hi⟩ = (content ρ κ u).get ⟨o + i, hi'⟩ := by
            have hi2 : i < (sub (content ρ κ u) (o : Int) ((o + n : Nat) : Int)).length := by rw [← hxs]; exact hi
            rw [get_eq hxs i hi hi2, sub_get _ o (o + n) hle i hi2 hi']
          rw [e2]
          have e3 : (fun j => cellAt w b (o * u.n + i * u.n + j)) = (fun j => cellAt w b ((o + i) * u.n + j)) := funext fun j => by rw [Nat.add_mul]
          rw [e3]
          exact this
    split at hr
    · simp only [Option.some.injEq, Prod.mk.injEq] at hr; exact key _ rfl (by simp) hr.2.symm hr.1.symm
    · simp only [Option.some.injEq, Prod.mk.injEq] at hr; exact key _ rfl (by simp) hr.2.symm hr.1.symm
    · simp at hr
  | nil => simp [readL] at hr
  | nilp => simp [readL] at hr
  | ptr κ j => simp [readL] at hr
  | arr κ => simp [readL] at hr
  | ept κ j => simp [readL] at hr
  | ipt t j => simp [readL] at hr
  | gone => simp [readL] at hr
theorem asT_ok (h : Rel C sl ks ρ β a w) {c : CE} {v : Value} (hv : CEOk (memOf C ks β ρ w) c v) {t : Ty} {e : PE} {fz : Frz} (hr : asT ⟨sl, ks⟩ c t = some (e, fz)) :
    RepC w (fun b => imms C ks β w b ∨ ∃ κ k, (κ, k) ∈ fz ∧ β κ = some b) t (fun _ => some v) (e.ev ρ t) := by
  have imp : ∀ b, imms C ks β w b → (imms C ks β w b ∨ ∃ κ k, (κ, k) ∈ fz ∧ β κ = some b) := fun b hb => .inl hb
  obtain ⟨s, e0⟩ := c
  have key : ∀ u, t = .lst u → (readL ⟨sl, ks⟩ (s, e0)).bind (fun x => if x.1 == u then some (x.2, frz ⟨sl, ks⟩ s) else none) = some (e, fz) →
      RepC w (fun b => imms C ks β w b ∨ ∃ κ k, (κ, k) ∈ fz ∧ β κ = some b) t (fun _ => some v) (e.ev ρ t) := by
    intro u ht hb
    subst ht
    simp only [Option.bind_eq_some_iff] at hb
    obtain ⟨⟨u', r⟩, h1, h2⟩ := hb
    split at h2
    · rename_i hu
      simp only [Option.some.injEq, Prod.mk.injEq] at h2
      obtain ⟨rfl, rfl⟩ := h2
      have hu' : u' = u := by simpa using hu
      subst hu'
      have hl := readL_ok h hv h1
      obtain ⟨base, cap, g1, g2, g3⟩ := hl
      refine ⟨base, _, cap, by show some v = _; rw [g1]; rfl, rfl, g2, ?_⟩
      rcases g3 with g3 | ⟨b, off, q1, q2, q3⟩
      · exact .inl g3
      · refine .inr ⟨b, off, q1, ?_, fun i hi => RepC.ext imp (fun b _ o => rfl) _ _ _ (q3 i hi)⟩
        cases hk : rowK ⟨sl, ks⟩ s with
        | none => simp only [ReadJ, hk] at q2; exact .inl q2
        | some κ =>
          simp only [ReadJ, hk] at q2
          right
          refine ⟨κ, .imm u', ?_, q2.2.1⟩
          have hk1 := q2.1
          clear q2 q3 g1 g2 h1
          cases s <;> simp [rowK] at hk
          all_goals
            split at hk <;> simp at hk
            subst hk
            simp [frz, hk1]
    · simp at h2
  cases s with
  | dyn u =>
    cases t with
    | lst t =>
      simp only [asT] at hr
      split at hr
      · rename_i hu
        simp only [Option.some.injEq, Prod.mk.injEq] at hr
        obtain ⟨rfl, rfl⟩ := hr
        have hu' : u = .lst t := by simpa using hu
        subst hu'
        have hc := hv.2
        simp only [CellOk, CE.dyn, Sh.ty] at hc
        rw [Dyn.get_mk] at hc
        exact RepC.ext imp (fun b _ o => rfl) _ _ _ hc
      · simp at hr
    | _ =>
      simp only [asT] at hr
      split at hr
      · rename_i hu
        simp only [Option.some.injEq, Prod.mk.injEq] at hr
        obtain ⟨rfl, rfl⟩ := hr
        have hu' := by simpa using hu
        subst hu'
        have hc := hv.2
        simp only [CellOk, CE.dyn, Sh.ty] at hc
        rw [Dyn.get_mk] at hc
        exact RepC.ext imp (fun b _ o => rfl) _ _ _ hc
      · simp at hr
  | nil =>
    cases t <;> simp [asT] at hr
    obtain ⟨rfl, rfl⟩ := hr
    have hc : v = .slice none 0 0 := hv.2
    exact ⟨none, 0, 0, by rw [hc], rfl, Nat.le_refl _, .inl rfl⟩
  | _ =>
    cases t with
    | lst u => exact key u rfl hr
    | _ => simp [asT] at hr
end
end Rk
set_option linter.unusedVariables false
set_option linter.unusedSimpArgs false
namespace Rk
open Go
structure TabsOk (E : Env) (C : Ctx) : Prop where
  P : C.P = E.P
  tab : ∀ g u m, E.tab g = some (u, m) → C.J g ∧ ((C.tabs g).get (.lst u) : List u.D).length = m ∧
    ∀ i (h : i < ((C.tabs g).get (.lst u) : List u.D).length), RepC C.w0 C.J u (fun j => cellAt C.w0 g (i * u.n + j)) (((C.tabs g).get (.lst u) : List u.D).get ⟨i, h⟩)
section
variable {E : Env} {C : Ctx} {sl : Nat → Slot} {ks : Nat → Option KSh} {ρ : Rho} {β : Nat → Option Nat} {a : Act} {w : World}
def ValOp (C : Ctx) (ks : Nat → Option KSh) (ρ : Rho) (β : Nat → Option Nat) (a : Act) (w : World) (o : Oper) (cond : Cond) (e : Eff) : Prop :=
  ∃ x r, IsPut cond o.dst e x ∧ (execOp a.eval o).run C.P w = .ok (.value r) w ∧ OpVOk (memOf C ks β ρ w) x r
theorem VOk.mk1 {M : Mem} {c : CE} {v : Value} (h : CEOk M c v) : OpVOk M (.val false [c]) v :=
  ⟨[v], by simp [mkV], fun _ => rfl, h, trivial⟩
theorem ValOp.one {o : Oper} {cond : Cond} {e : Eff} {c : CE} {r : Value} {chk : List PE} (he : e = { put1 cond o.dst c with chk := chk })
    (hr : (execOp a.eval o).run C.P w = .ok (.value r) w) (hc : CEOk (memOf C ks β ρ w) c r) : ValOp C ks ρ β a w o cond e := by
  subst he
  exact ⟨.val false [c], r, IsPut.ofChk _ _ _ _, hr, VOk.mk1 hc⟩
theorem ValOp.one' {o : Oper} {cond : Cond} {e : Eff} {c : CE} {r : Value} (he : e = put1 cond o.dst c)
    (hr : (execOp a.eval o).run C.P w = .ok (.value r) w) (hc : CEOk (memOf C ks β ρ w) c r) : ValOp C ks ρ β a w o cond e := by
  subst he
  exact ⟨.val false [c], r, IsPut.of _ _ _, hr, VOk.mk1 hc⟩
theorem run_v {P : Program} {s : Sem Value} {r : Value} {w' : World} (h : s.run P w = .ok r w') : (do pure (Next.value (← s)) : Sem Next).run P w = .ok (.value r) w' := by
  simp [h]
theorem toI_u8 (x : UInt8) : 0 ≤ toI .u8 x ∧ toI .u8 x < 256 := by
  show 0 ≤ ((UInt8.toNat x : Nat) : Int) ∧ ((UInt8.toNat x : Nat) : Int) < 256
  have := UInt8.toNat_lt x
  omega
theorem opX_ok (h : Rel C sl ks ρ β a w) {cond : Cond} (hc : condOk ρ cond) {x : Operand} {e : PE} (hx : opX ⟨sl, ks⟩ cond x = some e) : ∃ k, a.eval x = .int k (e.evI ρ) := by
  simp only [opX, Option.bind_eq_bind, Option.bind_eq_some_iff] at hx
  obtain ⟨⟨k, e'⟩, h1, h2⟩ := hx
  have h3 := opI_ok h hc h1
  split at h2
  · rename_i e0 heq
    simp only [Prod.mk.injEq] at heq
    obtain ⟨rfl, rfl⟩ := heq
    simp only [Option.some.injEq] at h2
    subst h2
    exact ⟨_, h3⟩
  · rename_i e0 heq
    simp only [Prod.mk.injEq] at heq
    obtain ⟨rfl, rfl⟩ := heq
    simp only [Option.some.injEq] at h2
    subst h2
    refine ⟨.u8, ?_⟩
    have h4 : (PE.conv .u8 e').evI ρ = IntKind.i64.wrap (toI .u8 (e'.ev ρ (.int .u8))) := rfl
    have h5 := toI_u8 (e'.ev ρ (.int .u8))
    rw [h4, Go.IntWalk.i64_in _ (by omega)]
    exact h3
  · simp at h2
theorem imms_J (h : Rel C sl ks ρ β a w) {b : Nat} (hb : C.J b) : imms C ks β w b := by
  obtain ⟨h1, h2⟩ := h.jt b hb
  refine ⟨.inl hb, Nat.lt_of_lt_of_le h1 h.fr.size, fun κ hp hk => ?_⟩
  rcases (h.own κ b hp hk).1 with q | q
  · exact h2 q
  · omega
theorem tabJ_ok (hT : TabsOk E C) (h : Rel C sl ks ρ β a w) {g m : Nat} {u : Ty} (ht : E.tab g = some (u, m)) :
    imms C ks β w g ∧ (PE.evL ρ u (.loc (.g g))).length = m ∧
    ∀ i (hi : i < (PE.evL ρ u (.loc (.g g))).length), RepC w (imms C ks β w) u (fun j => cellAt w g (i * u.n + j)) ((PE.evL ρ u (.loc (.g g))).get ⟨i, hi⟩) := by
  obtain ⟨h1, h2, h3⟩ := hT.tab g u m ht
  have he : PE.evL ρ u (.loc (.g g)) = (C.tabs g).get (.lst u) := by
    show (ρ (.g g)).get (.lst u) = _
    rw [h.tab]
  have hb : ∀ b, C.J b → ∀ o, cellAt w b o = cellAt C.w0 b o := fun b hb o => cellAt_congr (h.fr.block b (h.jt b hb).1 (h.jt b hb).2) o
  refine ⟨imms_J h h1, by rw [he]; exact h2, fun i hi => ?_⟩
  have hi' : i < ((C.tabs g).get (.lst u) : List u.D).length := by rw [← he]; exact hi
  rw [get_eq he i hi hi']
  have := RepC.ext (fun b hb => imms_J h hb) hb _ _ _ (h3 i hi')
  have e : (fun j => cellAt w g (i * u.n + j)) = (fun j => cellAt C.w0 g (i * u.n + j)) := funext fun j => hb g h1 _
  rw [e]; exact this
theorem run_indexAt_slice {P : Program} {t el : TypeId} (ht : P.underlying t = some (.slice el)) {s : Nat} (hs : sizeT P el = some s) {k : IntKind} {i : Int} {b off len cap : Nat}
    (h0 : 0 ≤ i) (h1 : i < len) : (Instr.indexAt t (.slice (some ⟨b, off, none⟩) len cap) (.int k i)).run P w = .ok (.pointer (some ⟨b, off + i.toNat * s, none⟩)) w := by
  simp only [Instr.indexAt, asIntOf, Sem.run_bind, Sem.run_pure, Result.andThen_ok, run_und ht, run_size hs]
  simp [h0, h1, run_size hs, addr_add]
theorem run_indexAt_array {P : Program} {t el : TypeId} {n : Nat} (ht : P.underlying t = some (.array n el)) {s : Nat} (hs : sizeT P el = some s) {k : IntKind} {i : Int} {b off : Nat}
    (h0 : 0 ≤ i) (h1 : i < n) : (Instr.indexAt t (.pointer (some ⟨b, off, none⟩)) (.int k i)).run P w = .ok (.pointer (some ⟨b, off + i.toNat * s, none⟩)) w := by
  simp only [Instr.indexAt, asIntOf, Sem.run_bind, Sem.run_pure, Result.andThen_ok, run_und ht, run_size hs, Instr.sureAddr]
  simp [h0, h1, run_size hs, addr_add]
theorem evI_llen (ρ : Rho) (u : Ty) (r : PE) : (PE.llen u r).evI ρ = ((r.evL ρ u).length : Nat) := rfl
theorem evI_slen (ρ : Rho) (r : PE) : (PE.slen r).evI ρ = (List.length (α := UInt8) (r.ev ρ .str) : Nat) := rfl
theorem evI_int (ρ : Rho) (n : Int) : (PE.int n).evI ρ = n := rfl
theorem CEOk.ipt {M : Mem} {u : Ty} {j : Nat} {e : PE} {b off : Nat} (hI : M.I b) (h : RepC M.w M.I u (fun i => cellAt M.w b (off + i)) (e.ev M.ρ u)) :
    CEOk M (.ipt u j, e) (.pointer (some ⟨b, off + j, none⟩)) := by
  refine ⟨trivial, b, off, rfl, hI, ?_⟩
  simp only [CE.dyn, Sh.ty]
  rw [Dyn.get_mk]
  exact h
theorem CEOk.ept {M : Mem} {κ j : Nat} {k : KSh} {u : Ty} {e : PE} {b i : Nat} (hk : M.ks κ = some k) (hu : k.lt = some u) (hi : e.evI M.ρ = (i : Int)) (hlt : i < (content M.ρ κ u).length)
    (hb : M.β κ = some b) : CEOk M (.ept κ j, e) (.pointer (some ⟨b, i * u.n + j, none⟩)) := by
  refine ⟨trivial, ?_⟩
  simp only [CellOk, hk]
  have : ∃ i' : Nat, toI .i64 ((CE.dyn M.ρ (.ept κ j, e)).get (.int .i64)) = i' ∧ i' < (content M.ρ κ u).length ∧
        ∃ b', M.β κ = some b' ∧ Value.pointer (some ⟨b, i * u.n + j, none⟩) = .pointer (some ⟨b', i' * u.n + j, none⟩) := by
    refine ⟨i, ?_, hlt, b, hb, rfl⟩
    simp only [CE.dyn, Sh.ty]
    rw [Dyn.get_mk]
    exact hi
  rcases KSh.cases_lt hu with rfl | rfl | ⟨n, rfl⟩ <;> exact this
theorem stIndexAddr_ok (hT : TabsOk E C) (h : Rel C sl ks ρ β a w) {cond : Cond} (hc : condOk ρ cond) {o : Oper} {t : TypeId} {x ix : Operand} {e : Eff}
    (ho : o.op = .indexAddr t x ix) (hs : stIndexAddr E ⟨sl, ks⟩ cond o.dst t x ix = some e) (hk : allB ρ e.chk = true) : ValOp C ks ρ β a w o cond e := by
  have hP := hT.P
  simp only [stIndexAddr, Option.bind_eq_bind, Option.bind_eq_some_iff] at hs
  obtain ⟨i, hi, d, hd, hs⟩ := hs
  obtain ⟨kk, hix⟩ := opX_ok h hc hi
  rw [← hP] at hd
  have hrun : ∀ r, (Instr.indexAt t (a.eval x) (a.eval ix)).run C.P w = .ok r w → (execOp a.eval o).run C.P w = .ok (.value r) w := by
    intro r hr
    unfold execOp
    rw [ho]
    exact run_v hr
  split at hs
  · -- a table
    rename_i n el g
    simp only [Option.bind_eq_some_iff] at hs
    obtain ⟨⟨u, m⟩, htab, l, hl, hs⟩ := hs
    split at hs
    · rename_i hcond
      simp only [Option.some.injEq] at hs
      simp only [Bool.and_eq_true, beq_iff_eq] at hcond
      obtain ⟨hnm, hlu⟩ := hcond
      rw [← hP] at hl
      obtain ⟨hsz, hleaf⟩ := lvs_size hl
      subst hs
      have hb := ev_inB (under_ok hc (allB_mem hk _ (List.mem_singleton.2 rfl)))
      rw [evI_int] at hb
      obtain ⟨g1, g2, g3⟩ := tabJ_ok hT h htab
      refine ValOp.one rfl (hrun _ ?_) (CEOk.ipt (b := g) (off := 0 + (i.evI ρ).toNat * l.length) g1 ?_)
      · rw [hix]; exact run_indexAt_array hd hsz hb.1 hb.2
      · have hlt : (i.evI ρ).toNat < (PE.evL ρ u (.loc (.g g))).length := by rw [g2]; omega
        have h3 := g3 _ hlt
        have hev : (PE.lidx (.loc (.g g)) i).ev ρ u = (PE.evL ρ u (.loc (.g g))).get ⟨_, hlt⟩ := ev_lidx (show toI .i64 (i.ev ρ (.int .i64)) = _ from (Int.toNat_of_nonneg hb.1).symm) hlt
        have hn : u.n = l.length := by rw [← hlu, tree_n _ hleaf]
        simp only [memOf]
        rw [hev, ← hn]
        simp only [Nat.zero_add]
        exact h3
    · simp at hs
  · -- an array behind a pointer
    rename_i n el x' hx'
    simp only [Option.bind_eq_some_iff] at hs
    obtain ⟨c, hcx, sz, hsz, hs⟩ := hs
    rw [← hP] at hsz
    have hv := op1_ok h hc hcx
    split at hs
    · rename_i κ e0
      simp only [Option.bind_eq_some_iff] at hs
      obtain ⟨k, hkk, hs⟩ := hs
      split at hs
      · rename_i u m
        split at hs
        · rename_i hcond
          simp only [Option.some.injEq] at hs
          simp only [Bool.and_eq_true, beq_iff_eq] at hcond
          obtain ⟨hnm, hsu⟩ := hcond
          subst hs
          have hb := ev_inB (under_ok hc (allB_mem hk _ (List.mem_singleton.2 rfl)))
          rw [evI_int] at hb
          have hcell := hv.2
          simp only [CellOk, memOf, hkk] at hcell
          obtain ⟨b, hbb, hvb⟩ := hcell
          obtain ⟨b', cc, q0, q1, q2, q3⟩ := h.keys κ _ hkk
          simp only [memOf] at q2
          have hlt : (i.evI ρ).toNat < (content ρ κ u).length := by omega
          refine ValOp.one rfl (hrun _ ?_) (CEOk.ept (b := b) (i := (i.evI ρ).toNat) (u := u) hkk rfl (Int.toNat_of_nonneg hb.1).symm hlt hbb)
          rw [hix, hvb, run_indexAt_array hd hsz hb.1 hb.2, hsu, Nat.zero_add, Nat.add_zero]
        · simp at hs
      · simp at hs
    · rename_i κ j e0
      simp only [Option.bind_eq_some_iff] at hs
      obtain ⟨k, hkk, hs⟩ := hs
      split at hs
      · rename_i cs kz z
        split at hs
        · rename_i hz
          simp only [Option.some.injEq] at hs
          simp only [Bool.and_eq_true, decide_eq_true_eq] at hz
          subst hs
          have hcell := hv.2
          simp only [CellOk, memOf, hkk] at hcell
          obtain ⟨b, hbb, hvb⟩ := hcell
          refine ValOp.one' rfl (hrun _ ?_) (c := (.ptr κ (j + z.toNat * sz), .unit)) (r := .pointer (some ⟨b, j + z.toNat * sz, none⟩)) ⟨trivial, ?_⟩
          · rw [hvb]
            exact run_indexAt_array hd hsz hz.1 hz.2
          · simp only [CellOk, memOf, hkk]
            exact ⟨b, hbb, rfl⟩
        · simp at hs
      · simp at hs
    · simp at hs
  · -- a slice
    rename_i el x'
    simp only [Option.bind_eq_some_iff] at hs
    obtain ⟨c, hcx, l, hl, hs⟩ := hs
    rw [← hP] at hl
    obtain ⟨hsz, hleaf⟩ := lvs_size hl
    have hv := op1_ok h hc hcx
    split at hs
    · simp only [Option.some.injEq] at hs
      subst hs
      have := under_ok hc (allB_mem hk _ (List.mem_singleton.2 rfl))
      exact absurd this (by simp [PE.evB, PE.ev])
    · rename_i hnn
      simp only [Option.bind_eq_some_iff] at hs
      obtain ⟨⟨u, r⟩, hr, hs⟩ := hs
      have hL := readL_ok h hv hr
      split at hs
      · simp at hs
      · rename_i hlu
        have hlu' : tree l = u := by simpa using hlu
        have hn : u.n = l.length := by rw [← hlu', tree_n _ hleaf]
        have hchk : ∀ _ : Nat, [under ⟨sl, ks⟩ cond (inB i (.llen u r))] = e.chk → 0 ≤ i.evI ρ ∧ i.evI ρ < ((r.evL ρ u).length : Nat) := by
          intro _ he
          have hb := ev_inB (under_ok hc (allB_mem (he ▸ hk) _ (List.mem_singleton.2 rfl)))
          rw [evI_llen] at hb
          exact hb
        obtain ⟨base, cap, g1, g2, g3⟩ := hL
        have fin : (0 ≤ i.evI ρ ∧ i.evI ρ < ((r.evL ρ u).length : Nat)) → ∃ b off, base = some ⟨b, off, none⟩ ∧ ReadJ C sl ks ρ β w c u (r.evL ρ u).length b off ∧
            (execOp a.eval o).run C.P w = .ok (.value (.pointer (some ⟨b, off + (i.evI ρ).toNat * u.n, none⟩))) w ∧
            ∃ hlt : (i.evI ρ).toNat < (r.evL ρ u).length, RepC w (imms C ks β w) u (fun j => cellAt w b (off + (i.evI ρ).toNat * u.n + j)) ((r.evL ρ u).get ⟨_, hlt⟩) := by
          intro hb
          rcases g3 with g3 | ⟨b, off, q1, q2, q3⟩
          · omega
          · have hlt : (i.evI ρ).toNat < (r.evL ρ u).length := by omega
            refine ⟨b, off, q1, q2, hrun _ ?_, hlt, q3 _ hlt⟩
            rw [hix, g1, q1, hn]
            exact run_indexAt_slice hd hsz hb.1 hb.2
        split at hs
        · rename_i hrk
          simp only [Option.some.injEq] at hs
          have hb := hchk 0 (by rw [← hs])
          obtain ⟨b, off, q1, q2, q3, hlt, q4⟩ := fin hb
          simp only [ReadJ, hrk] at q2
          refine ValOp.one hs.symm q3 (CEOk.ipt (b := b) (off := off + (i.evI ρ).toNat * u.n) q2 ?_)
          simp only [memOf]
          rw [show (PE.lidx r i).ev ρ u = (r.evL ρ u).get ⟨_, hlt⟩ from ev_lidx (show toI .i64 (i.ev ρ (.int .i64)) = _ from (Int.toNat_of_nonneg hb.1).symm) hlt]
          exact q4
        · rename_i κ hrk
          split at hs
          · rename_i κ' hview
            simp only [Option.some.injEq] at hs
            have hb := hchk 0 (by rw [← hs])
            obtain ⟨b, off, q1, q2, q3, hlt, q4⟩ := fin hb
            have hrk' := hrk
            rw [hview] at hrk'
            simp only [ReadJ, hview, hrk'] at q2
            obtain ⟨p1, p2, oo, p3, p4, p5, p6⟩ := q2
            have hκ : κ = κ' := by
              simp only [hview, rowK] at hrk
              split at hrk
              · simp only [Option.some.injEq] at hrk; exact hrk.symm
              · simp at hrk
            subst hκ
            have he : (PE.plus (.fst (.int .i64) c.2) i).evI ρ = ((oo + (i.evI ρ).toNat : Nat) : Int) := by
              show (PE.fst (.int .i64) c.2).evI ρ + i.evI ρ = _
              omega
            have := CEOk.ept (M := memOf C ks β ρ w) (κ := κ) (j := 0) (k := .row u) (u := u) (e := .plus (.fst (.int .i64) c.2) i) (b := b) (i := oo + (i.evI ρ).toNat) p1 rfl he (by simp only [memOf]; omega) p2
            refine ValOp.one hs.symm q3 ?_
            rw [p3, ← Nat.add_mul]
            exact this
          · rename_i hview
            simp only [Option.some.injEq] at hs
            have hb := hchk 0 (by rw [← hs])
            obtain ⟨b, off, q1, q2, q3, hlt, q4⟩ := fin hb
            simp only [ReadJ, hrk] at q2
            obtain ⟨p1, p2, oo, p3, p4, p5⟩ := q2
            have hoo : oo = 0 := p5
            subst hoo
            have := CEOk.ept (M := memOf C ks β ρ w) (κ := κ) (j := 0) (k := .row u) (u := u) (e := i) (b := b) (i := (i.evI ρ).toNat) p1 rfl (Int.toNat_of_nonneg hb.1).symm (by simp only [memOf]; omega) p2
            refine ValOp.one hs.symm q3 ?_
            rw [p3, Nat.zero_mul, Nat.zero_add]
            exact this
  · simp at hs
end
end Rk
set_option linter.unusedVariables false
set_option linter.unusedSimpArgs false
namespace Rk
open Go
section
variable {E : Env} {C : Ctx} {sl : Nat → Slot} {ks : Nat → Option KSh} {ρ : Rho} {β : Nat → Option Nat} {a : Act} {w : World}
theorem optX_ok (h : Rel C sl ks ρ β a w) {cond : Cond} (hc : condOk ρ cond) {x : Option Operand} {dflt e : PE} (hx : optX ⟨sl, ks⟩ cond dflt x = some e) :
    (x = none ∧ e = dflt) ∨ ∃ y k, x = some y ∧ a.eval y = .int k (e.evI ρ) := by
  cases x with
  | none => simp only [optX, Option.some.injEq] at hx; exact .inl ⟨rfl, hx.symm⟩
  | some y => obtain ⟨k, hk⟩ := opX_ok h hc hx; exact .inr ⟨y, k, rfl, hk⟩
theorem run_bounds {P : Program} (h : Rel C sl ks ρ β a w) {cond : Cond} (hc : condOk ρ cond) {lo hi : Option Operand} {l hh dh : PE} (is : Bool) {len cap : Nat}
    (hl : optX ⟨sl, ks⟩ cond (.int 0) lo = some l) (hhi : optX ⟨sl, ks⟩ cond dh hi = some hh) (hd : dh.evI ρ = len) (h0 : 0 ≤ l.evI ρ) (h1 : l.evI ρ ≤ hh.evI ρ) (h2 : hh.evI ρ ≤ cap) :
    (Instr.sliceBounds is len cap (lo.map a.eval) (hi.map a.eval) none).run P w = .ok ((l.evI ρ).toNat, (hh.evI ρ).toNat, cap) w := by
  have e1 : ((hh.evI ρ).toNat : Int) = hh.evI ρ := Int.toNat_of_nonneg (by omega)
  rcases optX_ok h hc hl with ⟨rfl, rfl⟩ | ⟨y, k, rfl, hy⟩ <;> rcases optX_ok h hc hhi with ⟨rfl, rfl⟩ | ⟨y', k', rfl, hy'⟩
  · have : (PE.int 0).evI ρ = 0 := rfl
    simp [Instr.sliceBounds, this, hd]
  · have : (PE.int 0).evI ρ = 0 := rfl
    rw [this] at h0 h1
    simp [Instr.sliceBounds, this, hy', run_sliceBound, h1, h2]
  · simp only [hd] at h1 h2 e1
    simp [Instr.sliceBounds, hd, hy, run_sliceBound, h0, h1, h2, e1]
  · have g : 0 ≤ hh.evI ρ := by omega
    simp [Instr.sliceBounds, hy, hy', run_sliceBound, h0, h1, h2, g, e1]
theorem run_bounds3 {P : Program} (h : Rel C sl ks ρ β a w) {cond : Cond} (hc : condOk ρ cond) {lo : Option Operand} {hi mx : Operand} {l hh m : PE} (is : Bool) {len cap : Nat}
    (hl : optX ⟨sl, ks⟩ cond (.int 0) lo = some l) (hhi : opX ⟨sl, ks⟩ cond hi = some hh) (hm : opX ⟨sl, ks⟩ cond mx = some m) (h0 : 0 ≤ l.evI ρ) (h1 : l.evI ρ ≤ hh.evI ρ) (h2 : hh.evI ρ ≤ cap)
    (h3 : m.evI ρ = hh.evI ρ) :
    (Instr.sliceBounds is len cap (lo.map a.eval) (some (a.eval hi)) (some (a.eval mx))).run P w = .ok ((l.evI ρ).toNat, (hh.evI ρ).toNat, (hh.evI ρ).toNat) w := by
  have e1 : ((hh.evI ρ).toNat : Int) = hh.evI ρ := Int.toNat_of_nonneg (by omega)
  have g : 0 ≤ hh.evI ρ := by omega
  obtain ⟨k2, hy2⟩ := opX_ok h hc hhi
  obtain ⟨k3, hy3⟩ := opX_ok h hc hm
  rw [h3] at hy3
  rcases optX_ok h hc hl with ⟨rfl, rfl⟩ | ⟨y, k, rfl, hy⟩
  · have : (PE.int 0).evI ρ = 0 := rfl
    simp [Instr.sliceBounds, this, hy2, hy3, run_sliceBound, h2, g, e1]
  · simp [Instr.sliceBounds, hy, hy2, hy3, run_sliceBound, h0, h1, h2, g, e1]
theorem RepC.strV {w : World} {I : Nat → Prop} {v : Value} {x : List UInt8} (h : RepC w I .str (fun _ => some v) x) : ∃ s : ByteArray, v = .string s ∧ s.data.toList = x := by
  obtain ⟨s, h1, h2⟩ := h
  simp only [Option.some.injEq] at h1
  exact ⟨s, h1, h2⟩
theorem extract_data (s : ByteArray) (l h : Nat) : (s.extract l h).data.toList = (s.data.toList.take h).drop l := by
  rw [ByteArray.data_extract, Array.toList_extract, List.extract_eq_take_drop, List.take_drop]
  by_cases hl : l ≤ h
  · rw [show l + (h - l) = h from by omega]
  · rw [show h - l = 0 from by omega, Nat.add_zero]
    simp
    omega
theorem size_data (s : ByteArray) : s.data.toList.length = s.size := Array.length_toList
theorem rowCell (h : Rel C sl ks ρ β a w) {c : CE} {v : Value} (hv : CEOk (memOf C ks β ρ w) c v) {κ : Nat} (hcκ : c.1 = .full κ ∨ c.1 = .pre κ) {u : Ty} (hk : ks κ = some (.row u)) {r : PE}
    (hr : readL ⟨sl, ks⟩ c = some (u, r)) : (r.evL ρ u).length ≤ (content ρ κ u).length ∧ RowV (memOf C ks β ρ w) κ u (r.evL ρ u).length v := by
  obtain ⟨s, e⟩ := c
  have hc := hv.2
  rcases hcκ with rfl | rfl
  · simp only [readL, hk, Option.bind_eq_bind, Option.bind_some, Option.some.injEq, Prod.mk.injEq, true_and] at hr
    subst hr
    simp only [CellOk, memOf, hk] at hc
    exact ⟨Nat.le_refl _, hc⟩
  · simp only [readL, hk, Option.bind_eq_bind, Option.bind_some, Option.some.injEq, Prod.mk.injEq, true_and] at hr
    subst hr
    simp only [CellOk, memOf, hk, CE.dyn, Sh.ty] at hc
    rw [Dyn.get_mk] at hc
    obtain ⟨n, hn, hle, g⟩ := hc
    have hxs : (PE.lsub (.loc (.k κ 0)) (.int 0) e).evL ρ u = sub (content ρ κ u) ((0 : Nat) : Int) (n : Int) := by
      show sub (content ρ κ u) (0 : Int) (e.evI ρ) = _
      rw [show e.evI ρ = (n : Int) from hn]; rfl
    have hlen : ((PE.lsub (.loc (.k κ 0)) (.int 0) e).evL ρ u).length = n := by rw [hxs, sub_length _ _ _ (Nat.zero_le _) hle]; omega
    rw [hlen]
    exact ⟨hle, g⟩
theorem CEOk.pre {M : Mem} {κ : Nat} {u : Ty} {e : PE} {v : Value} {n : Nat} (hk : M.ks κ = some (.row u)) (he : e.evI M.ρ = (n : Int)) (hn : n ≤ (content M.ρ κ u).length) (hv : RowV M κ u n v) :
    CEOk M (.pre κ, e) v := by
  refine ⟨by obtain ⟨b, c, h1, _⟩ := hv; rw [h1]; trivial, ?_⟩
  simp only [CellOk, hk, CE.dyn, Sh.ty]
  rw [Dyn.get_mk]
  exact ⟨n, he, hn, hv⟩
theorem CEOk.view {M : Mem} {κ : Nat} {u : Ty} {x y : PE} {base : Option Addr} {cap o n : Nat} (hk : M.ks κ = some (.row u)) (hx : x.evI M.ρ = (o : Int)) (hy : y.evI M.ρ = (n : Int))
    (hn : o + n ≤ (content M.ρ κ u).length) (hcap : n ≤ cap) (hb : n = 0 ∨ ∃ b, M.β κ = some b ∧ base = some ⟨b, o * u.n, none⟩) :
    CEOk M (.view κ, .pair x y) (.slice base n cap) := by
  refine ⟨trivial, ?_⟩
  simp only [CellOk, hk, CE.dyn, Sh.ty]
  rw [Dyn.get_mk]
  refine ⟨o, n, ?_, hn, base, cap, rfl, hcap, hb⟩
  show (x.evI M.ρ, y.evI M.ρ) = _
  rw [hx, hy]
theorem ListAt.cut {t : Ty} {base : Option Addr} {cap : Nat} {xs : List t.D} {I : Nat → Prop} {J : Nat → Nat → Prop} {l hh m : Nat} (hl : l ≤ hh) (hh1 : hh ≤ xs.length) (hm : hh ≤ m) (hmc : m ≤ cap)
    (h : ListAt w I t (.slice base xs.length cap) xs J) (hJ : ∀ b o : Nat, J b o → I b) :
    RepC w I (.lst t) (fun _ => some (.slice (if m = l then base else base.map (·.add (l * t.n))) (hh - l) (m - l))) (sub xs (l : Int) (hh : Int)) := by
  obtain ⟨base', cap', h1, h2, h3⟩ := h
  simp only [Value.slice.injEq] at h1
  obtain ⟨rfl, _, rfl⟩ := h1
  have hlen := sub_length xs l hh hl hh1
  refine ⟨_, _, _, rfl, hlen, by omega, ?_⟩
  by_cases hz : hh - l = 0
  · exact .inl hz
  · right
    rcases h3 with h3 | ⟨b, off, q1, q2, q3⟩
    · omega
    · refine ⟨b, off + l * t.n, ?_, hJ b off q2, fun i hi => ?_⟩
      · rw [if_neg (by omega), q1]
        simp [addr_add]
      · have hi2 : l + i < xs.length := by
          have hi' : i < (sub xs (l : Int) (hh : Int)).length := hi
          omega
        have := q3 (l + i) hi2
        rw [sub_get xs l hh hh1 i hi hi2]
        have e : (fun j => cellAt w b (off + l * t.n + i * t.n + j)) = (fun j => cellAt w b (off + (l + i) * t.n + j)) := funext fun j => by rw [Nat.add_mul]; congr 1; omega
        rw [e]; exact this
theorem run_sliceAt {P : Program} {t el : TypeId} (ht : P.underlying t = some (.slice el)) {s : Nat} (hs : sizeT P el = some s) {base : Option Addr} {len cap : Nat} {lo hi mx : Option Value} {l h m : Nat}
    (hb : (Instr.sliceBounds true len cap lo hi mx).run P w = .ok (l, h, m) w) :
    (Instr.sliceAt t (.slice base len cap) lo hi mx).run P w = .ok (.slice (if m = l then base else base.map (·.add (l * s))) (h - l) (m - l)) w := by
  simp [Instr.sliceAt, Instr.slice, run_und ht, hb, run_size hs]
theorem stSlice_ok (hT : TabsOk E C) (h : Rel C sl ks ρ β a w) {cond : Cond} (hc : condOk ρ cond) {o : Oper} {t : TypeId} {x : Operand} {lo hi : Option Operand} {e : Eff}
    (ho : o.op = .slice t x lo hi none) (hs : stSlice E ⟨sl, ks⟩ cond o.dst t x lo hi none = some e) (hk : allB ρ e.chk = true) : ValOp C ks ρ β a w o cond e := by
  have hP := hT.P
  simp only [stSlice, Option.bind_eq_bind, Option.bind_eq_some_iff] at hs
  obtain ⟨d, hd, hs⟩ := hs
  rw [← hP] at hd
  have hrun : ∀ r, (Instr.sliceAt t (a.eval x) (lo.map a.eval) (hi.map a.eval) none).run C.P w = .ok r w → (execOp a.eval o).run C.P w = .ok (.value r) w := by
    intro r hr
    unfold execOp
    rw [ho]
    exact run_v hr
  split at hs
  · -- a string
    simp only [Option.isSome_none, Bool.false_eq_true, if_false, Option.bind_eq_some_iff] at hs
    obtain ⟨e0, he0, l, hl, hh, hhi, hs⟩ := hs
    simp only [Option.some.injEq] at hs
    subst hs
    obtain ⟨s, hs1, hs2⟩ := RepC.strV (opT_ok h hc he0)
    obtain ⟨c1, c2⟩ := ev_and (under_ok hc (allB_mem hk _ (List.mem_singleton.2 rfl)))
    obtain ⟨c3, c4⟩ := ev_and c2
    have c1 := ev_le c1; have c3 := ev_le c3; have c4 := ev_le c4
    rw [evI_int] at c1
    have hlen : (PE.slen e0).evI ρ = (s.size : Nat) := by rw [evI_slen, ← hs2, size_data]
    rw [hlen] at c4
    have hb := run_bounds (P := C.P) h hc false hl hhi hlen c1 c3 c4
    refine ValOp.one rfl (hrun (.string (s.extract (l.evI ρ).toNat (hh.evI ρ).toNat)) ?_) (CEOk.mkStr ?_)
    · rw [hs1]
      simp [Instr.sliceAt, Instr.slice, run_und hd, hb]
    · rw [extract_data, hs2]
      rfl
  · -- a slice
    rename_i el
    simp only [Option.bind_eq_some_iff] at hs
    obtain ⟨c, hcx, lv, hlv, l, hl, hs⟩ := hs
    rw [← hP] at hlv
    obtain ⟨hsz, hleaf⟩ := lvs_size hlv
    have hv := op1_ok h hc hcx
    split at hs
    · simp only [Option.bind_eq_some_iff, Option.isSome_none, Bool.false_eq_true, if_false, Option.some.injEq] at hs
      obtain ⟨hh, hhi, hs⟩ := hs
      subst hs
      obtain ⟨c1, c2⟩ := ev_and (under_ok hc (allB_mem hk _ (List.mem_singleton.2 rfl)))
      have c1' : l.evI ρ = 0 := by have : cmpI .eql (l.evI ρ) 0 = true := c1; simpa [cmpI] using this
      have c2' : hh.evI ρ = 0 := by have : cmpI .eql (hh.evI ρ) 0 = true := c2; simpa [cmpI] using this
      have hvn : a.eval x = .slice none 0 0 := hv.2
      have hb := run_bounds (P := C.P) h hc true (len := 0) (cap := 0) hl hhi rfl (by omega) (by omega) (by omega)
      refine ValOp.one rfl (hrun (.slice none 0 0) ?_) ⟨trivial, rfl⟩
      rw [hvn, run_sliceAt hd hsz hb, c1', c2']
      simp
    · rename_i hnn
      simp only [Option.bind_eq_some_iff] at hs
      obtain ⟨⟨u, r⟩, hr, hs⟩ := hs
      have hL := readL_ok h hv hr
      split at hs
      · simp at hs
      · rename_i hlu
        simp only [Option.bind_eq_some_iff] at hs
        obtain ⟨hh, hhi, hs⟩ := hs
        have hlu' : tree lv = u := by simpa using hlu
        have hn : u.n = lv.length := by rw [← hlu', tree_n _ hleaf]
        have hchk : ∀ _ : Nat, [under ⟨sl, ks⟩ cond (.and (le (.int 0) l) (.and (le l hh) (le hh (.llen u r))))] = e.chk → 0 ≤ l.evI ρ ∧ l.evI ρ ≤ hh.evI ρ ∧ hh.evI ρ ≤ ((r.evL ρ u).length : Nat) := by
          intro _ he
          obtain ⟨c1, c2⟩ := ev_and (under_ok hc (allB_mem (he ▸ hk) _ (List.mem_singleton.2 rfl)))
          obtain ⟨c3, c4⟩ := ev_and c2
          have c1 := ev_le c1; have c3 := ev_le c3; have c4 := ev_le c4
          rw [evI_int] at c1
          rw [evI_llen] at c4
          exact ⟨c1, c3, c4⟩
        obtain ⟨base, cap, g1, g2, g3⟩ := hL
        have fin : (0 ≤ l.evI ρ ∧ l.evI ρ ≤ hh.evI ρ ∧ hh.evI ρ ≤ ((r.evL ρ u).length : Nat)) →
            (execOp a.eval o).run C.P w = .ok (.value (.slice (if cap = (l.evI ρ).toNat then base else base.map (·.add ((l.evI ρ).toNat * u.n))) ((hh.evI ρ).toNat - (l.evI ρ).toNat) (cap - (l.evI ρ).toNat))) w := by
          intro hb
          have hb' := run_bounds (P := C.P) h hc true (len := (r.evL ρ u).length) (cap := cap) hl hhi (evI_llen _ _ _) hb.1 hb.2.1 (by omega)
          refine hrun _ ?_
          rw [g1, hn]
          exact run_sliceAt hd hsz hb'
        split at hs
        · rename_i hrk
          simp only [Option.some.injEq] at hs
          have hb := hchk 0 (by rw [← hs])
          refine ValOp.one hs.symm (fin hb) (CEOk.mkDyn trivial ?_)
          have hJ : ∀ b off : Nat, ReadJ C sl ks ρ β w c u (r.evL ρ u).length b off → imms C ks β w b := fun b off hJ => by simp only [ReadJ, hrk] at hJ; exact hJ
          have := ListAt.cut (w := w) (t := u) (I := imms C ks β w) (l := (l.evI ρ).toNat) (hh := (hh.evI ρ).toNat) (m := cap) (by omega) (by omega) (by omega) (by omega) ⟨base, cap, rfl, g2, g3⟩ hJ
          have hev : (PE.lsub r l hh).ev ρ (.lst u) = sub (r.evL ρ u) ((l.evI ρ).toNat : Int) ((hh.evI ρ).toNat : Int) := by
            rw [Int.toNat_of_nonneg hb.1, Int.toNat_of_nonneg (by omega)]; rfl
          simp only [memOf]
          rw [hev]
          exact this
        · rename_i κ hrk
          have hκrow : ∃ u', ks κ = some (.row u') := by
            obtain ⟨s, e0⟩ := c
            cases s <;> simp [rowK] at hrk
            all_goals
              split at hrk <;> simp at hrk
              subst hrk
              rename_i u' hu'
              exact ⟨u', hu'⟩
          have hrow : ks κ = some (.row u) := by
            obtain ⟨u', hu'⟩ := hκrow
            have : u' = u := by
              obtain ⟨s, e0⟩ := c
              cases s <;> simp [rowK] at hrk
              all_goals
                split at hrk <;> simp at hrk
                subst hrk
                simp [readL, hu'] at hr
                exact hr.1
            rw [← this]; exact hu'
          split at hs
          · rename_i κ' hview
            simp only [Option.some.injEq] at hs
            have hb := hchk 0 (by rw [← hs])
            have hκ : κ = κ' := by
              simp only [hview, rowK] at hrk
              split at hrk
              · simp only [Option.some.injEq] at hrk; exact hrk.symm
              · simp at hrk
            subst hκ
            -- where the view lies
            have hrow' : ∃ oo : Nat, (PE.fst (.int .i64) c.2).evI ρ = oo ∧ oo + (r.evL ρ u).length ≤ (content ρ κ u).length ∧ ((r.evL ρ u).length = 0 ∨ ∃ b, β κ = some b ∧ base = some ⟨b, oo * u.n, none⟩) := by
              obtain ⟨s, e0⟩ := c
              simp only at hview
              subst hview
              have hcell := hv.2
              simp only [CellOk, memOf, hrow, CE.dyn, Sh.ty] at hcell
              rw [Dyn.get_mk] at hcell
              obtain ⟨oo, n, p1, p2, base', cap', p3, p4, p5⟩ := hcell
              rw [g1] at p3
              simp only [Value.slice.injEq] at p3
              obtain ⟨rfl, hn', rfl⟩ := p3
              refine ⟨oo, ?_, by omega, by rw [hn']; exact p5⟩
              show (e0.ev ρ (.pair (.int .i64) (.int .i64))).1 = (oo : Int)
              rw [p1]
            obtain ⟨oo, p1, p2, p3⟩ := hrow'
            refine ValOp.one hs.symm (fin hb) (CEOk.view (M := memOf C ks β ρ w) (u := u) (o := oo + (l.evI ρ).toNat) (n := (hh.evI ρ).toNat - (l.evI ρ).toNat) hrow ?_ ?_ (by simp only [memOf]; omega) (by omega) ?_)
            · show (PE.fst (.int .i64) c.2).evI ρ + l.evI ρ = _
              omega
            · show hh.evI ρ - l.evI ρ = _
              omega
            · by_cases hz : (hh.evI ρ).toNat - (l.evI ρ).toNat = 0
              · exact .inl hz
              · right
                rcases p3 with p3 | ⟨b, p3, p4⟩
                · omega
                · refine ⟨b, p3, ?_⟩
                  rw [if_neg (by omega), p4]
                  simp [addr_add, Nat.add_mul]
          · rename_i hview
            have hcκ : c.1 = .full κ ∨ c.1 = .pre κ := by
              obtain ⟨s, e0⟩ := c
              cases s <;> simp [rowK] at hrk
              case view => exact absurd rfl (hview _)
              all_goals
                split at hrk <;> simp at hrk
                subst hrk
                simp
            obtain ⟨p1, base', cap', p2, p3, p4⟩ := rowCell h hv hcκ hrow hr
            rw [g1] at p2
            simp only [Value.slice.injEq, true_and] at p2
            obtain ⟨rfl, rfl⟩ := p2
            simp only [memOf] at p4
            split at hs
            · rename_i hz
              simp only [Option.some.injEq] at hs
              have hb := hchk 0 (by rw [← hs])
              have hl0 : l.evI ρ = 0 := by
                rcases optX_ok h hc hl with ⟨_, rfl⟩ | ⟨y, k, rfl, hy⟩
                · rfl
                · unfold isZero at hz
                  split at hz
                  · rename_i hq; simp at hq
                  · rename_i hq
                    simp only [Option.some.injEq] at hq
                    subst hq
                    simp only [Act.eval, Value.int.injEq] at hy
                    exact hy.2.symm
                  · simp at hz
              have hf := fin hb
              rw [hl0] at hf
              refine ValOp.one hs.symm hf (CEOk.pre (M := memOf C ks β ρ w) (u := u) (n := (hh.evI ρ).toNat) hrow (Int.toNat_of_nonneg (show 0 ≤ hh.evI ρ by omega)).symm (by simp only [memOf]; omega) ?_)
              refine ⟨base, cap, ?_, by omega, ?_⟩
              · have : base.map (·.add (0 * u.n)) = base := by
                  cases base with
                  | none => rfl
                  | some ad => simp [Addr.add]
                rw [show (0 : Int).toNat = 0 from rfl, this]
                simp
              · simp only [memOf]
                exact p4
            · simp only [Option.some.injEq] at hs
              have hb := hchk 0 (by rw [← hs])
              refine ValOp.one hs.symm (fin hb) (CEOk.view (M := memOf C ks β ρ w) (u := u) (o := (l.evI ρ).toNat) (n := (hh.evI ρ).toNat - (l.evI ρ).toNat) hrow ?_ ?_ (by simp only [memOf]; omega) (by omega) ?_)
              · exact (Int.toNat_of_nonneg hb.1).symm
              · show hh.evI ρ - l.evI ρ = _
                omega
              · by_cases hz : (hh.evI ρ).toNat - (l.evI ρ).toNat = 0
                · exact .inl hz
                · right
                  cases hβ : β κ with
                  | none => rw [hβ] at p4; omega
                  | some b =>
                    rw [hβ] at p4
                    refine ⟨b, hβ, ?_⟩
                    rw [if_neg (by omega), p4.1]
                    simp [addr_add]
  · simp at hs
end
end Rk
set_option linter.unusedVariables false
set_option linter.unusedSimpArgs false
namespace Rk
open Go
section
variable {E : Env} {C : Ctx} {sl : Nat → Slot} {ks : Nat → Option KSh} {ρ : Rho} {β : Nat → Option Nat} {a : Act} {w : World}
theorem wrap_u8_in (n : Int) : 0 ≤ IntKind.u8.wrap n ∧ IntKind.u8.wrap n < 256 := by
  rw [IntKind.wrap_u8]; omega
theorem arI_u8 {op : BinOp} {x y : Int} (hx : 0 ≤ x ∧ x < 256) (hy : op = .rem → 0 ≤ y) : 0 ≤ arI op .u8 x y ∧ arI op .u8 x y < 256 := by
  cases op <;> simp only [arI, bitsI] <;> first
    | exact wrap_u8_in _
    | (rw [Int.tmod_eq_emod_of_nonneg hx.1]
       have hy := hy rfl
       obtain ⟨n, rfl⟩ := Int.eq_ofNat_of_zero_le hx.1
       obtain ⟨m, rfl⟩ := Int.eq_ofNat_of_zero_le hy
       have := Nat.mod_le n m
       omega)
    | (rw [Int.fdiv_eq_ediv_of_nonneg _ (Int.le_of_lt (Int.pow_pos (by omega)))]
       have h1 := Int.ediv_nonneg (b := 2 ^ min y.toNat IntKind.u8.bits) hx.1 (Int.le_of_lt (Int.pow_pos (by omega)))
       have h2 := Int.ediv_le_self (2 ^ min y.toNat IntKind.u8.bits) hx.1
       omega)
    | (constructor <;> decide)
theorem toI_ar {op : BinOp} {k k2 : IntKind} {x y : PE} (hy : k = .u8 → op = .rem → 0 ≤ toI k2 (y.ev ρ (.int k2))) :
    toI k ((PE.ar op k k2 x y).ev ρ (.int k)) = arI op k (toI k (x.ev ρ (.int k))) (toI k2 (y.ev ρ (.int k2))) := by
  show toI k (ofI k (arI op k (toI k (x.ev ρ (.int k))) (toI k2 (y.ev ρ (.int k2))))) = _
  refine toI_ofI (fun hk => ?_)
  subst hk
  exact arI_u8 (toI_u8 _) (hy rfl)
theorem CEOk.intV {M : Mem} {k : IntKind} {e : PE} {v : Value} (h : CEOk M (.dyn (.int k), e) v) : v = .int k (toI k (e.ev M.ρ (.int k))) := by
  have := h.2
  simp only [CellOk, CE.dyn, Sh.ty, Dyn.get_mk, RepC, Option.some.injEq] at this
  exact this
theorem CEOk.boolV {M : Mem} {e : PE} {v : Value} (h : CEOk M (.dyn .bool, e) v) : v = .bool (e.evB M.ρ) := by
  have := h.2
  simp only [CellOk, CE.dyn, Sh.ty, Dyn.get_mk, RepC, Option.some.injEq] at this
  exact this
theorem CEOk.strV {M : Mem} {e : PE} {v : Value} (h : CEOk M (.dyn .str, e) v) : ∃ s : ByteArray, v = .string s ∧ s.data.toList = e.ev M.ρ .str := by
  have := h.2
  simp only [CellOk, CE.dyn, Sh.ty, Dyn.get_mk] at this
  exact RepC.strV this
theorem run_eqGuard {P : Program} {op : BinOp} {t : TypeId} {x y : Operand} {u v : Value} (h : ∀ cs, u ≠ .agg cs) (h2 : u ≠ .nilIface) : (eqGuard op t x y u v).run P w = .ok () w := by
  cases u <;> first | exact absurd rfl (h _) | exact absurd rfl h2 | (cases op <;> rfl)
theorem binOp_cmp {op : BinOp} (h : isCmp op = true) (t : TypeId) (k : IntKind) (x y : Int) (P : Program) : (binOp op t (.int k x) (.int k y)).run P w = .ok (.bool (cmpI op x y)) w := by
  cases op <;> simp [isCmp] at h <;> simp [binOp, Op.intCmp, cmpI]
theorem binOp_ar {op : BinOp} (h : isCmp op = false) (h1 : op ≠ .shl) (h2 : op ≠ .shr) (h3 : op ≠ .quo) (h4 : op ≠ .rem) (t : TypeId) (k : IntKind) (x y : Int) (P : Program) :
    (binOp op t (.int k x) (.int k y)).run P w = .ok (.int k (arI op k x y)) w := by
  cases op <;> simp [isCmp] at h h1 h2 h3 h4 <;> simp [binOp, Op.intArith, Op.intBits, arI, bitsI]
theorem binOp_div {op : BinOp} (h : op = .quo ∨ op = .rem) (t : TypeId) (k : IntKind) (x y : Int) (hy : y ≠ 0) (P : Program) :
    (binOp op t (.int k x) (.int k y)).run P w = .ok (.int k (arI op k x y)) w := by
  rcases h with rfl | rfl <;> simp [binOp, Op.intDiv, arI, hy]
theorem binOp_shift {op : BinOp} (h : op = .shl ∨ op = .shr) (t : TypeId) (k k2 : IntKind) (x y : Int) (hy : 0 ≤ y) (P : Program) :
    (binOp op t (.int k x) (.int k2 y)).run P w = .ok (.int k (arI op k x y)) w := by
  rcases h with rfl | rfl <;> simp [binOp, Op.shift, arI, show ¬ y < 0 by omega]
theorem binOp_cmpS {op : BinOp} (h : isCmp op = true) (t : TypeId) (x y : ByteArray) (P : Program) : (binOp op t (.string x) (.string y)).run P w = .ok (.bool (cmpS op x.data.toList y.data.toList)) w := by
  cases op <;> simp [isCmp] at h <;> simp [binOp, Op.stringOp, cmpS, ByteArray.toList_eq]
theorem binOp_eql {t : TypeId} {x y : Value} {b : Bool} {P : Program} (hx : ∀ k n, x ≠ .int k n) (hf : ∀ k n, x ≠ .float k n) (hcx : ∀ k n m, x ≠ .complex k n m) (hs : ∀ s, x ≠ .string s)
    (he : (Op.equalIn (9999 + 1) t x y).run P w = .ok b w) : (binOp .eql t x y).run P w = .ok (.bool b) w := by
  have : binOp .eql t x y = (do pure (.bool (← Op.equalIn (9999 + 1) t x y))) := by
    cases x <;> first | rfl | exact absurd rfl (hx _ _) | exact absurd rfl (hf _ _) | exact absurd rfl (hcx _ _ _) | exact absurd rfl (hs _)
  rw [this]
  simp only [Sem.run_bind, he, Result.andThen_ok, Sem.run_pure]
theorem binOp_neq {t : TypeId} {x y : Value} {b : Bool} {P : Program} (hx : ∀ k n, x ≠ .int k n) (hf : ∀ k n, x ≠ .float k n) (hcx : ∀ k n m, x ≠ .complex k n m) (hs : ∀ s, x ≠ .string s)
    (he : (Op.equalIn (9999 + 1) t x y).run P w = .ok b w) : (binOp .neq t x y).run P w = .ok (.bool (!b)) w := by
  have : binOp .neq t x y = (do pure (.bool (!(← Op.equalIn (9999 + 1) t x y)))) := by
    cases x <;> first | rfl | exact absurd rfl (hx _ _) | exact absurd rfl (hf _ _) | exact absurd rfl (hcx _ _ _) | exact absurd rfl (hs _)
  rw [this]
  simp only [Sem.run_bind, he, Result.andThen_ok, Sem.run_pure]
theorem eq_ptr_nil {P : Program} {t el : TypeId} (hd : P.underlying t = some (.pointer el)) (ad : Addr) (d : Nat) : (Op.equalIn (d + 1) t (.pointer (some ad)) (.pointer none)).run P w = .ok false w := by
  simp [Op.equalIn, run_und hd]
theorem eq_nil_nil {P : Program} {t el : TypeId} (hd : P.underlying t = some (.pointer el)) (d : Nat) : (Op.equalIn (d + 1) t (.pointer none) (.pointer none)).run P w = .ok true w := by
  simp [Op.equalIn, run_und hd]
theorem eq_bool {P : Program} {t : TypeId} (hd : P.underlying t = some .bool) (x y : Bool) (d : Nat) : (Op.equalIn (d + 1) t (.bool x) (.bool y)).run P w = .ok (x == y) w := by
  simp [Op.equalIn, run_und hd]
theorem two_vals (h : Rel C sl ks ρ β a w) {cond : Cond} (hc : condOk ρ cond) {x : Operand} {c : CE} {g : Bool} (hx : opC ⟨sl, ks⟩ cond x = some (g, [c])) (hg : g = false) :
    CEOk (memOf C ks β ρ w) c (a.eval x) := by
  subst hg
  exact VOk.one (opC_ok h hc hx)
theorem stBin_ok (hT : TabsOk E C) (h : Rel C sl ks ρ β a w) {cond : Cond} (hc : condOk ρ cond) {o : Oper} {op : BinOp} {t : TypeId} {x y : Operand} {wr : Bool} {e : Eff}
    (hrun : ∀ r, (do eqGuard op t x y (a.eval x) (a.eval y); binOp op t (a.eval x) (a.eval y) : Sem Value).run C.P w = .ok r w → (execOp a.eval o).run C.P w = .ok (.value r) w)
    (hagg : ∀ xs ys, opC ⟨sl, ks⟩ cond x = some (true, xs) → opC ⟨sl, ks⟩ cond y = some (true, ys) → stEqAgg E cond o.dst op t xs ys = some e → ValOp C ks ρ β a w o cond e)
    (hs : stBin E ⟨sl, ks⟩ cond o.dst op t x y = some e) (hk : allB ρ e.chk = true) : ValOp C ks ρ β a w o cond e := by
  have hP := hT.P
  simp only [stBin, Option.bind_eq_bind, Option.bind_eq_some_iff] at hs
  obtain ⟨⟨g, xs⟩, hx, ⟨hh, ys⟩, hy, hs⟩ := hs
  dsimp only at hs
  split at hs
  · rename_i hgh
    simp only [Bool.and_eq_true] at hgh
    obtain ⟨rfl, rfl⟩ := hgh
    exact hagg _ _ hx hy hs
  split at hs
  · simp at hs
  · rename_i hgh
    have hg : g = false := by cases g <;> simp_all
    have hhh : hh = false := by cases hh <;> simp_all
    have hrun2 : ∀ r, (∀ cs, a.eval x ≠ .agg cs) → a.eval x ≠ .nilIface → (binOp op t (a.eval x) (a.eval y)).run C.P w = .ok r w → (execOp a.eval o).run C.P w = .ok (.value r) w := by
      intro r h1 h2 h3
      refine hrun r ?_
      simp only [Sem.run_bind, run_eqGuard h1 h2, Result.andThen_ok]
      exact h3
    split at hs
    · -- a pointer and nil
      rename_i κ j p q
      have hxv := two_vals h hc hx hg
      have hyv := two_vals h hc hy hhh
      simp only [Option.bind_eq_some_iff] at hs
      obtain ⟨_, hl, d, hd, hs⟩ := hs
      rw [← hP] at hd
      have hptr : ∃ ad, a.eval x = .pointer (some ad) := by
        simp only [liveC] at hl
        split at hl
        · rename_i cs hkk
          have hcell := hxv.2
          simp only [CellOk, memOf, hkk] at hcell
          obtain ⟨b, _, hb⟩ := hcell
          exact ⟨_, hb⟩
        · simp at hl
      obtain ⟨ad, had⟩ := hptr
      have hyn : a.eval y = .pointer none := hyv.2
      have q1 : ∀ cs, a.eval x ≠ .agg cs := fun cs he => by rw [had] at he; simp at he
      have q2 : a.eval x ≠ .nilIface := fun he => by rw [had] at he; simp at he
      split at hs
      · simp only [Option.some.injEq] at hs
        refine ValOp.one' hs.symm (hrun2 (.bool false) q1 q2 ?_) (CEOk.mkBool rfl)
        rw [had, hyn]
        exact binOp_eql (by simp) (by simp) (by simp) (by simp) (eq_ptr_nil hd _ _)
      · simp only [Option.some.injEq] at hs
        refine ValOp.one' hs.symm (hrun2 (.bool true) q1 q2 ?_) (CEOk.mkBool rfl)
        rw [had, hyn]
        exact binOp_neq (by simp) (by simp) (by simp) (by simp) (eq_ptr_nil hd _ _)
      · simp at hs
    · -- nil and nil
      have hxv := two_vals h hc hx hg
      have hyv := two_vals h hc hy hhh
      simp only [Option.bind_eq_some_iff] at hs
      obtain ⟨d, hd, hs⟩ := hs
      rw [← hP] at hd
      have hxn : a.eval x = .pointer none := hxv.2
      have hyn : a.eval y = .pointer none := hyv.2
      have q1 : ∀ cs, a.eval x ≠ .agg cs := fun cs he => by rw [hxn] at he; simp at he
      have q2 : a.eval x ≠ .nilIface := fun he => by rw [hxn] at he; simp at he
      split at hs
      · simp only [Option.some.injEq] at hs
        refine ValOp.one' hs.symm (hrun2 (.bool true) q1 q2 ?_) (CEOk.mkBool rfl)
        rw [hxn, hyn]
        exact binOp_eql (by simp) (by simp) (by simp) (by simp) (eq_nil_nil hd _)
      · simp only [Option.some.injEq] at hs
        refine ValOp.one' hs.symm (hrun2 (.bool false) q1 q2 ?_) (CEOk.mkBool rfl)
        rw [hxn, hyn]
        exact binOp_neq (by simp) (by simp) (by simp) (by simp) (eq_nil_nil hd _)
      · simp at hs
    · -- integers
      rename_i k p k2 q
      have hxv := CEOk.intV (two_vals h hc hx hg)
      have hyv := CEOk.intV (two_vals h hc hy hhh)
      simp only [memOf] at hxv hyv
      have q1 : ∀ cs, a.eval x ≠ .agg cs := fun cs he => by rw [hxv] at he; simp at he
      have q2 : a.eval x ≠ .nilIface := fun he => by rw [hxv] at he; simp at he
      have sh : ∀ (_ : op = .shl ∨ op = .shr), some ({ put1 cond o.dst (.dyn (.int k), .ar op k k2 p q) with chk := [under ⟨sl, ks⟩ cond (.cmpI .geq k2 q (.int 0))] } : Eff) = some e → ValOp C ks ρ β a w o cond e := by
        intro hop hs
        simp only [Option.some.injEq] at hs
        have hb := under_ok hc (allB_mem (hs ▸ hk) _ (List.mem_singleton.2 rfl))
        have hb' : toI k2 (q.ev ρ (.int k2)) ≥ 0 := by
          have h1 : cmpI .geq (toI k2 (q.ev ρ (.int k2))) (toI k2 (ofI k2 0)) = true := hb
          have h2 : toI k2 (ofI k2 0) = 0 := toI_ofI (by intro _; omega)
          rw [h2] at h1
          simpa [cmpI] using h1
        refine ValOp.one hs.symm (hrun2 _ q1 q2 ?_) (CEOk.mkInt (toI_ar (fun _ hr => by rcases hop with rfl | rfl <;> simp at hr)))
        rw [hxv, hyv]
        exact binOp_shift hop t k k2 _ _ hb' C.P
      have dv : ∀ (_ : op = .quo ∨ op = .rem), (if (k != k2) = true then none else some ({ put1 cond o.dst (.dyn (.int k), .ar op k k2 p q) with chk := [under ⟨sl, ks⟩ cond (.cmpI .neq k2 q (.int 0))] } : Eff)) = some e → ValOp C ks ρ β a w o cond e := by
        intro hop hs
        split at hs
        · simp at hs
        · rename_i hkk
          have hkk' : k = k2 := by simpa using hkk
          subst hkk'
          simp only [Option.some.injEq] at hs
          have hb := under_ok hc (allB_mem (hs ▸ hk) _ (List.mem_singleton.2 rfl))
          have hb' : toI k (q.ev ρ (.int k)) ≠ 0 := by
            have h1 : cmpI .neq (toI k (q.ev ρ (.int k))) (toI k (ofI k 0)) = true := hb
            have h2 : toI k (ofI k 0) = 0 := toI_ofI (by intro _; omega)
            rw [h2] at h1
            simpa [cmpI] using h1
          refine ValOp.one hs.symm (hrun2 _ q1 q2 ?_) (CEOk.mkInt (toI_ar (fun hk8 _ => by subst hk8; exact (toI_u8 _).1)))
          rw [hxv, hyv]
          exact binOp_div hop t k _ _ hb' C.P
      split at hs
      · exact sh (.inl rfl) hs
      · exact sh (.inr rfl) hs
      · exact dv (.inl rfl) hs
      · exact dv (.inr rfl) hs
      · rename_i n1 n2 n3 n4
        split at hs
        · simp at hs
        · rename_i hkk
          have hkk' : k = k2 := by simpa using hkk
          subst hkk'
          split at hs
          · rename_i hcmp
            simp only [Option.some.injEq] at hs
            refine ValOp.one' hs.symm (hrun2 _ q1 q2 ?_) (CEOk.mkBool (b := cmpI op (toI k (p.ev ρ (.int k))) (toI k (q.ev ρ (.int k)))) rfl)
            rw [hxv, hyv]
            exact binOp_cmp hcmp t k _ _ C.P
          · rename_i hcmp
            simp only [Option.some.injEq] at hs
            refine ValOp.one' hs.symm (hrun2 _ q1 q2 ?_) (CEOk.mkInt (toI_ar (fun _ hr => absurd hr (by intro hr; exact n4 hr))))
            rw [hxv, hyv]
            exact binOp_ar (by simpa using hcmp) n1 n2 n3 n4 t k _ _ C.P
    · -- strings
      rename_i p q
      obtain ⟨s1, hxv, hs1⟩ := CEOk.strV (two_vals h hc hx hg)
      obtain ⟨s2, hyv, hs2⟩ := CEOk.strV (two_vals h hc hy hhh)
      simp only [memOf] at hs1 hs2
      have q1 : ∀ cs, a.eval x ≠ .agg cs := fun cs he => by rw [hxv] at he; simp at he
      have q2 : a.eval x ≠ .nilIface := fun he => by rw [hxv] at he; simp at he
      split at hs
      · rename_i hcmp
        simp only [Option.some.injEq] at hs
        refine ValOp.one' hs.symm (hrun2 _ q1 q2 ?_) (CEOk.mkBool (b := cmpS op (p.ev ρ .str) (q.ev ρ .str)) rfl)
        rw [hxv, hyv, ← hs1, ← hs2]
        exact binOp_cmpS hcmp t _ _ C.P
      · split at hs
        · rename_i hop
          have hop' : op = .add := by simpa using hop
          subst hop'
          simp only [Option.some.injEq] at hs
          have hb := ev_le (under_ok hc (allB_mem (hs ▸ hk) _ (List.mem_singleton.2 rfl)))
          have hlen : (PE.slen (.cat p q)).evI ρ = ((s1.size + s2.size : Nat) : Int) := by
            rw [evI_slen]
            have : (PE.cat p q).ev ρ .str = appL (α := UInt8) (p.ev ρ .str) (q.ev ρ .str) := rfl
            rw [this, ← hs1, ← hs2, appL, List.length_append, size_data, size_data]
          rw [hlen, evI_int] at hb
          refine ValOp.one hs.symm (hrun2 (.string (s1 ++ s2)) q1 q2 ?_) (CEOk.mkStr ?_)
          · rw [hxv, hyv]
            have : ¬ (((s1.size + s2.size : Nat) : Int) > IntKind.i64.max) := by
              have : IntKind.i64.max = 9223372036854775807 := by decide
              have h2 : most = 70368744177664 := by decide
              omega
            simp only [binOp, Op.stringOp]
            rw [if_neg this]
            rfl
          · show appL (α := UInt8) (p.ev ρ .str) (q.ev ρ .str) = _
            rw [← hs1, ← hs2, ByteArray.data_append, Array.toList_append]
        · simp at hs
    · -- truth values
      rename_i p q
      have hxv := CEOk.boolV (two_vals h hc hx hg)
      have hyv := CEOk.boolV (two_vals h hc hy hhh)
      simp only [memOf] at hxv hyv
      simp only [Option.bind_eq_some_iff] at hs
      obtain ⟨d, hd, hs⟩ := hs
      rw [← hP] at hd
      have q1 : ∀ cs, a.eval x ≠ .agg cs := fun cs he => by rw [hxv] at he; simp at he
      have q2 : a.eval x ≠ .nilIface := fun he => by rw [hxv] at he; simp at he
      have e1 : ∀ n, (PE.cmpB n p q).ev ρ .bool = (n ^^ (p.evB ρ == q.evB ρ)) := fun n => rfl
      split at hs
      · simp only [Option.some.injEq] at hs
        refine ValOp.one' hs.symm (hrun2 (.bool (p.evB ρ == q.evB ρ)) q1 q2 ?_) (CEOk.mkBool ?_)
        · rw [hxv, hyv]
          exact binOp_eql (by simp) (by simp) (by simp) (by simp) (eq_bool hd _ _ _)
        · simp only [memOf]; rw [e1]; simp only [Bool.false_xor]; rfl
      · simp only [Option.some.injEq] at hs
        refine ValOp.one' hs.symm (hrun2 (.bool (!(p.evB ρ == q.evB ρ))) q1 q2 ?_) (CEOk.mkBool ?_)
        · rw [hxv, hyv]
          exact binOp_neq (by simp) (by simp) (by simp) (by simp) (eq_bool hd _ _ _)
        · simp only [memOf]; rw [e1]; simp only [Bool.true_xor]; rfl
      · simp at hs
    · simp at hs
end
end Rk
set_option linter.unusedVariables false
set_option linter.unusedSimpArgs false
namespace Rk
open Go
section
variable {E : Env} {C : Ctx} {sl : Nat → Slot} {ks : Nat → Option KSh} {ρ : Rho} {β : Nat → Option Nat} {a : Act} {w : World}
theorem exec_val {o : Oper} {s : Sem Value} {P : Program} (he : execOp a.eval o = (do pure (Next.value (← s)))) {r : Value} (hr : s.run P w = .ok r w) : (execOp a.eval o).run P w = .ok (.value r) w := by
  rw [he]; exact run_v hr
theorem move_ok (h : Rel C sl ks ρ β a w) {cond : Cond} (hc : condOk ρ cond) {o : Oper} {x : Operand} {v : OpV} (ho : o.op = .move x ∨ o.op = .assign x) (hx : opV ⟨sl, ks⟩ cond x = some v) :
    ValOp C ks ρ β a w o cond (putV cond o.dst v) := by
  refine ⟨v, a.eval x, IsPut.of _ _ _, ?_, opV_ok h hc hx⟩
  unfold execOp
  rcases ho with ho | ho <;> rw [ho] <;> rfl
theorem pick_ok (h : Rel C sl ks ρ β a w) {cond ca cb : Cond} (hc : condOk ρ cond) {o : Oper} {c x y : Operand} {ce p q : PE} {t : Ty} (ho : o.op = .pick c x y)
    (hce : opT ⟨sl, ks⟩ cond c .bool = some ce) (hca : ce.evB ρ = true → condOk ρ ca) (hcb : ce.evB ρ = false → condOk ρ cb)
    (hx : op1 ⟨sl, ks⟩ ca x = some (.dyn t, p)) (hy : op1 ⟨sl, ks⟩ cb y = some (.dyn t, q)) :
    ValOp C ks ρ β a w o cond (put1 cond o.dst (.dyn t, .ite ce p q)) := by
  have hb : a.eval c = .bool (ce.evB ρ) := by
    have := opT_ok h hc hce
    simp only [RepC, Option.some.injEq] at this
    exact this
  cases hcv : ce.evB ρ with
  | true =>
    have hv := op1_ok h (hca hcv) hx
    refine ValOp.one' rfl (r := a.eval x) ?_ ⟨hv.1, ?_⟩
    · refine exec_val (s := do pure (if ← asBool (a.eval c) then a.eval x else a.eval y)) (by unfold execOp; rw [ho]; simp) ?_
      simp [hb, hcv, asBool]
    · have h2 := hv.2
      simp only [CellOk, CE.dyn, Sh.ty, Dyn.get_mk] at h2 ⊢
      have : (PE.ite ce p q).ev ρ t = p.ev ρ t := by
        show (if ce.evB ρ = true then _ else _) = _
        rw [hcv]; rfl
      simp only [memOf] at h2 ⊢
      rw [this]; exact h2
  | false =>
    have hv := op1_ok h (hcb hcv) hy
    refine ValOp.one' rfl (r := a.eval y) ?_ ⟨hv.1, ?_⟩
    · refine exec_val (s := do pure (if ← asBool (a.eval c) then a.eval x else a.eval y)) (by unfold execOp; rw [ho]; simp) ?_
      simp [hb, hcv, asBool]
    · have h2 := hv.2
      simp only [CellOk, CE.dyn, Sh.ty, Dyn.get_mk] at h2 ⊢
      have : (PE.ite ce p q).ev ρ t = q.ev ρ t := by
        show (if ce.evB ρ = true then _ else _) = _
        rw [hcv]; rfl
      simp only [memOf] at h2 ⊢
      rw [this]; exact h2
theorem live_ptr (h : Rel C sl ks ρ β a w) {c d : CE} {v : Value} (hv : CEOk (memOf C ks β ρ w) c v) (hl : liveC ⟨sl, ks⟩ c = some d) : d = c ∧ ∃ ad, v = .pointer (some ad) := by
  obtain ⟨s, e⟩ := c
  have hc := hv.2
  cases s with
  | ptr κ j =>
    simp only [liveC] at hl
    split at hl
    · rename_i cs hk
      simp only [CellOk, memOf, hk] at hc
      obtain ⟨b, _, hb⟩ := hc
      simp only [Option.some.injEq] at hl
      exact ⟨hl.symm, _, hb⟩
    · simp at hl
  | arr κ =>
    simp only [liveC] at hl
    split at hl
    · rename_i t n hk
      simp only [CellOk, memOf, hk] at hc
      obtain ⟨b, _, hb⟩ := hc
      simp only [Option.some.injEq] at hl
      exact ⟨hl.symm, _, hb⟩
    · simp at hl
  | ept κ j =>
    simp only [liveC] at hl
    split at hl
    all_goals first
      | (simp at hl; done)
      | (rename_i hk
         simp only [CellOk, memOf, hk] at hc
         obtain ⟨i, _, _, b, _, hb⟩ := hc
         simp only [Option.some.injEq] at hl
         exact ⟨hl.symm, _, hb⟩)
  | ipt t j =>
    simp only [liveC, Option.some.injEq] at hl
    obtain ⟨b, off, hb, _⟩ := hc
    exact ⟨hl.symm, _, hb⟩
  | _ => simp [liveC] at hl
theorem nilCheck_ok (h : Rel C sl ks ρ β a w) {cond : Cond} (hc : condOk ρ cond) {o : Oper} {x : Operand} {c d : CE} (ho : o.op = .nilCheck x) (hx : op1 ⟨sl, ks⟩ cond x = some c)
    (hl : liveC ⟨sl, ks⟩ c = some d) : ValOp C ks ρ β a w o cond (put1 cond o.dst d) := by
  have hv := op1_ok h hc hx
  obtain ⟨rfl, ad, hb⟩ := live_ptr h hv hl
  refine ValOp.one' rfl (r := a.eval x) ?_ hv
  unfold execOp
  rw [ho]
  simp only [hb]
  rfl
theorem shift_ok (h : Rel C sl ks ρ β a w) {c d d' : CE} {v : Value} (hv : CEOk (memOf C ks β ρ w) c v) (hl : liveC ⟨sl, ks⟩ c = some d) {n : Nat} (hs : shift d n = some d') :
    ∃ b off, v = .pointer (some ⟨b, off, none⟩) ∧ CEOk (memOf C ks β ρ w) d' (.pointer (some ⟨b, off + n, none⟩)) := by
  obtain ⟨rfl, _⟩ := live_ptr h hv hl
  obtain ⟨s, e⟩ := d
  have hc := hv.2
  cases s with
  | ptr κ j =>
    simp only [shift, Option.some.injEq] at hs
    subst hs
    simp only [liveC] at hl
    split at hl
    · rename_i cs hk
      simp only [CellOk, memOf, hk] at hc
      obtain ⟨b, hb, hvb⟩ := hc
      refine ⟨b, j, hvb, trivial, ?_⟩
      simp only [CellOk, memOf, hk]
      exact ⟨b, hb, rfl⟩
    · simp at hl
  | ept κ j =>
    simp only [shift, Option.some.injEq] at hs
    subst hs
    simp only [liveC] at hl
    split at hl
    all_goals first
      | (simp at hl; done)
      | (rename_i hk
         simp only [CellOk, memOf, hk] at hc
         obtain ⟨i, h1, h2, b, h3, hb⟩ := hc
         refine ⟨b, _, hb, trivial, ?_⟩
         simp only [CellOk, memOf, hk]
         exact ⟨i, h1, h2, b, h3, by rw [Nat.add_assoc]⟩)
  | ipt t j =>
    simp only [shift, Option.some.injEq] at hs
    subst hs
    obtain ⟨b, off, hb, h1, h2⟩ := hc
    exact ⟨b, off + j, hb, trivial, b, off, by rw [Nat.add_assoc], h1, h2⟩
  | _ => simp [shift] at hs
theorem fieldAddr_ok (hT : TabsOk E C) (h : Rel C sl ks ρ β a w) {cond : Cond} (hc : condOk ρ cond) {o : Oper} {t : TypeId} {x : Operand} {f n : Nat} {ft : TypeId} {c d d' : CE} (ho : o.op = .fieldAddr t x f)
    (hf : fieldOff E.P t f = some (n, ft)) {sz : Nat} (hsz : sizeT E.P ft = some sz) (hsz0 : sz ≠ 0) (hx : op1 ⟨sl, ks⟩ cond x = some c)
    (hl : liveC ⟨sl, ks⟩ c = some d) (hs : shift d n = some d') : ValOp C ks ρ β a w o cond (put1 cond o.dst d') := by
  have hv := op1_ok h hc hx
  obtain ⟨b, off, hb, hv'⟩ := shift_ok h hv hl hs
  rw [← hT.P] at hf hsz
  simp only [fieldOff, Option.bind_eq_bind, Option.bind_eq_some_iff] at hf
  obtain ⟨dd, hd, hf⟩ := hf
  split at hf
  · rename_i fs
    simp only [Option.bind_eq_some_iff, Option.some.injEq, Prod.mk.injEq] at hf
    obtain ⟨fx, hfx, h1, h2⟩ := hf
    refine ValOp.one' rfl (exec_val (s := Instr.fieldAt t (a.eval x) f) (by unfold execOp; rw [ho]) ?_) hv'
    simp only [Instr.fieldAt, Sem.run_bind, run_und hd, Result.andThen_ok, hfx, hb, Instr.sureAddr, Sem.run_pure]
    subst h1 h2
    simp only [fieldPlace, Sem.run_bind, run_size hsz, Result.andThen_ok, if_neg hsz0, Sem.run_pure, addr_add]
  · simp at hf
theorem CEsOk.drop {M : Mem} : ∀ (n : Nat) (cs : List CE) (vs : List Value), CEsOk M cs vs → CEsOk M (cs.drop n) (vs.drop n)
  | 0, _, _, h => h
  | n + 1, [], [], h => trivial
  | n + 1, c :: cs, v :: vs, h => CEsOk.drop n cs vs h.2
  | n + 1, [], _ :: _, h => h.elim
  | n + 1, _ :: _, [], h => h.elim
theorem CEsOk.take {M : Mem} : ∀ (n : Nat) (cs : List CE) (vs : List Value), CEsOk M cs vs → CEsOk M (cs.take n) (vs.take n)
  | 0, _, _, _ => by simp [CEsOk]
  | n + 1, [], [], h => trivial
  | n + 1, c :: cs, v :: vs, h => ⟨h.1, CEsOk.take n cs vs h.2⟩
  | n + 1, [], _ :: _, h => h.elim
  | n + 1, _ :: _, [], h => h.elim
theorem CEsOk.append {M : Mem} : ∀ (cs : List CE) (vs : List Value) (ds : List CE) (ws : List Value), CEsOk M cs vs → CEsOk M ds ws → CEsOk M (cs ++ ds) (vs ++ ws)
  | [], [], _, _, _, h => h
  | c :: cs, v :: vs, ds, ws, h, h' => ⟨h.1, CEsOk.append cs vs ds ws h.2 h'⟩
  | [], _ :: _, _, _, h, _ => h.elim
  | _ :: _, [], _, _, h, _ => h.elim
theorem run_part {P : Program} {ft : TypeId} {g : Bool} {n off : Nat} {vs : List Value} (hg : isAggT P ft = some g) (hn : sizeT P ft = some n) (hgn : g = true ∨ n = 1) (hl : off + n ≤ vs.length) :
    (part ft vs.toArray off).run P w = .ok (mkV g ((vs.drop off).take n)) w := by
  unfold part
  simp only [Sem.run_bind, run_agg hg, Result.andThen_ok]
  cases g with
  | true =>
    simp only [if_true, Sem.run_bind, run_size hn, Result.andThen_ok, Sem.run_pure, mkV]
    congr 2
    apply Array.ext'
    simp [List.extract_eq_take_drop, List.take_drop]
  | false =>
    have h1 : n = 1 := by simpa using hgn
    subst h1
    have hlt : off < vs.length := by omega
    have : vs.toArray[off]? = some vs[off] := by simp [hlt]
    simp only [Bool.false_eq_true, if_false, this, Sem.run_pure, mkV]
    congr 1
    rw [List.drop_eq_getElem_cons hlt]
    rfl
theorem field_ok (hT : TabsOk E C) (h : Rel C sl ks ρ β a w) {cond : Cond} (hc : condOk ρ cond) {o : Oper} {t : TypeId} {x : Operand} {f n off : Nat} {ft : TypeId} {g : Bool} {cs : List CE} (ho : o.op = .field t x f)
    (hf : fieldOff E.P t f = some (off, ft)) (hn : sizeT E.P ft = some n) (hg : isAggT E.P ft = some g) (hx : opC ⟨sl, ks⟩ cond x = some (true, cs))
    (hl : off + n ≤ cs.length) (hgn : g = true ∨ n = 1) : ValOp C ks ρ β a w o cond (putV cond o.dst (.val g ((cs.drop off).take n))) := by
  obtain ⟨cells, hb, _, hcs⟩ := opC_ok h hc hx
  rw [← hT.P] at hf hn hg
  have hlen : cs.length = cells.length := CEsOk.length _ _ hcs
  simp only [fieldOff, Option.bind_eq_bind, Option.bind_eq_some_iff] at hf
  obtain ⟨dd, hd, hf⟩ := hf
  split at hf
  · rename_i fs
    simp only [Option.bind_eq_some_iff, Option.some.injEq, Prod.mk.injEq] at hf
    obtain ⟨fx, hfx, h1, h2⟩ := hf
    refine ⟨.val g ((cs.drop off).take n), mkV g ((cells.drop off).take n), IsPut.of _ _ _, exec_val (s := Instr.field t (a.eval x) f) (by unfold execOp; rw [ho]) ?_, _, rfl, fun hg' => ?_, CEsOk.take _ _ _ (CEsOk.drop _ _ _ hcs)⟩
    · have hb' : a.eval x = .agg cells.toArray := hb
      subst h1 h2
      simp only [Instr.field, Sem.run_bind, run_und hd, Result.andThen_ok, hfx, hb', asAgg, Sem.run_pure]
      exact run_part hg hn hgn (by omega)
    · simp only at hg'
      subst hg'
      have h1 : n = 1 := by simpa using hgn
      simp only [List.length_take, List.length_drop]; omega
  · simp at hf
theorem index_ok (hT : TabsOk E C) (h : Rel C sl ks ρ β a w) {cond : Cond} (hc : condOk ρ cond) {o : Oper} {t : TypeId} {x ix : Operand} {i e : PE} (ho : o.op = .index t x ix)
    (hd : E.P.underlying t = some .string) (hi : opX ⟨sl, ks⟩ cond ix = some i) (hx : opT ⟨sl, ks⟩ cond x .str = some e)
    (hk : (under ⟨sl, ks⟩ cond (inB i (.slen e))).evB ρ = true) : ValOp C ks ρ β a w o cond { put1 cond o.dst (.dyn (.int .u8), .sidx e i) with chk := [under ⟨sl, ks⟩ cond (inB i (.slen e))] } := by
  rw [← hT.P] at hd
  obtain ⟨k, hix⟩ := opX_ok h hc hi
  obtain ⟨s, hs1, hs2⟩ := RepC.strV (opT_ok h hc hx)
  have hb := ev_inB (under_ok hc hk)
  have hlen : (PE.slen e).evI ρ = (s.size : Nat) := by rw [evI_slen, ← hs2, size_data]
  rw [hlen] at hb
  have hlt : (i.evI ρ).toNat < s.size := by omega
  refine ValOp.one rfl (exec_val (s := Instr.index t (a.eval x) (a.eval ix)) (by unfold execOp; rw [ho]) (r := .int .u8 (s[(i.evI ρ).toNat]'hlt).toNat) ?_) (CEOk.mkInt ?_)
  · rw [hs1, hix, run_index_string w t s k _ hd, dif_pos hb]
  · show ((UInt8.toNat (idx (0 : UInt8) (e.ev ρ .str) (i.evI ρ)) : Nat) : Int) = _
    rw [← hs2]
    unfold idx
    rw [if_neg (by omega)]
    have : s.data.toList.getD (i.evI ρ).toNat 0 = s[(i.evI ρ).toNat]'hlt := by
      have hlt' : (i.evI ρ).toNat < s.data.toList.length := by rw [size_data]; exact hlt
      rw [getD_get hlt']
      rfl
    rw [this]
theorem VsOk.get {M : Mem} : ∀ (Vs : List (Bool × List CE)) (vs : List Value) (i : Nat) (V : Bool × List CE), VsOk M Vs vs → Vs[i]? = some V → ∃ v, vs[i]? = some v ∧ VOk M V v
  | V :: Vs, v :: vs, 0, W, h, hi => by simp at hi; subst hi; exact ⟨v, rfl, h.1⟩
  | V :: Vs, v :: vs, i + 1, W, h, hi => by simpa using VsOk.get Vs vs i W h.2 (by simpa using hi)
  | [], [], i, W, h, hi => by simp at hi
  | [], _ :: _, _, _, h, _ => h.elim
  | _ :: _, [], _, _, h, _ => h.elim
theorem extract_ok (h : Rel C sl ks ρ β a w) {cond : Cond} (hc : condOk ρ cond) {o : Oper} {x : Operand} {i : Nat} {vs : List (Bool × List CE)} {g : Bool} {cs : List CE} (ho : o.op = .extract x i)
    (hx : opV ⟨sl, ks⟩ cond x = some (.tup vs)) (hi : vs[i]? = some (g, cs)) : ValOp C ks ρ β a w o cond (putV cond o.dst (.val g cs)) := by
  obtain ⟨xs, hb, hvs⟩ := opV_ok h hc hx
  obtain ⟨v, hv1, hv2⟩ := VsOk.get _ _ _ _ hvs hi
  refine ⟨.val g cs, v, IsPut.of _ _ _, exec_val (s := Instr.extract (a.eval x) i) (by unfold execOp; rw [ho]) ?_, hv2⟩
  simp [Instr.extract, hb, hv1]
theorem mapM_opC {cond : Cond} (h : Rel C sl ks ρ β a w) (hc : condOk ρ cond) : ∀ (xs : List Operand) (vs : List (Bool × List CE)), xs.mapM (opC ⟨sl, ks⟩ cond) = some vs → VsOk (memOf C ks β ρ w) vs (xs.map a.eval)
  | [], vs, hm => by simp at hm; subst hm; trivial
  | x :: xs, vs, hm => by
    simp only [List.mapM_cons, Option.bind_eq_bind, Option.bind_eq_some_iff, Option.pure_def, Option.some.injEq] at hm
    obtain ⟨v, h1, ws, h2, rfl⟩ := hm
    exact ⟨opC_ok h hc h1, mapM_opC h hc xs ws h2⟩
theorem VsOk.append {M : Mem} : ∀ (cs : List (Bool × List CE)) (vs : List Value) (ds : List (Bool × List CE)) (ws : List Value), VsOk M cs vs → VsOk M ds ws → VsOk M (cs ++ ds) (vs ++ ws)
  | [], [], _, _, _, h => h
  | c :: cs, v :: vs, ds, ws, h, h' => ⟨h.1, VsOk.append cs vs ds ws h.2 h'⟩
  | [], _ :: _, _, _, h, _ => h.elim
  | _ :: _, [], _, _, h, _ => h.elim
theorem makeFunc_ok (h : Rel C sl ks ρ β a w) {cond : Cond} (hc : condOk ρ cond) {o : Oper} {f : FuncId} {first captured : Array Operand} {ws vs : List (Bool × List CE)} (ho : o.op = .makeFunc (.func f) first captured)
    (hw : first.toList.mapM (opC ⟨sl, ks⟩ cond) = some ws) (hv : captured.toList.mapM (opC ⟨sl, ks⟩ cond) = some vs) : ValOp C ks ρ β a w o cond (putV cond o.dst (.clo f first.size (ws ++ vs))) := by
  refine ⟨.clo f first.size (ws ++ vs), .func (.func f) (first.map a.eval) (captured.map a.eval), IsPut.of _ _ _, exec_val (s := Instr.makeFunc (.func f) (first.map a.eval) (captured.map a.eval)) (by unfold execOp; rw [ho]) rfl,
    first.toList.map a.eval, captured.toList.map a.eval, ?_, by simp, VsOk.append _ _ _ _ (mapM_opC h hc _ _ hw) (mapM_opC h hc _ _ hv)⟩
  congr 1 <;> (apply Array.ext'; simp)
theorem unOp_ok (h : Rel C sl ks ρ β a w) {cond : Cond} (hc : condOk ρ cond) {o : Oper} {op : UnOp} {t : TypeId} {x : Operand} {c : CE} {e : Eff} (ho : o.op = .unOp op t x) (hx : op1 ⟨sl, ks⟩ cond x = some c)
    (hs : stUn cond o.dst op c = some e) : ValOp C ks ρ β a w o cond e := by
  have hv := op1_ok h hc hx
  have hrun : ∀ r, (Op.unary op (a.eval x)).run C.P w = .ok r w → (execOp a.eval o).run C.P w = .ok (.value r) w := fun r hr => exec_val (by unfold execOp; rw [ho]) hr
  unfold stUn at hs
  split at hs
  · simp only [Option.some.injEq] at hs
    have hb := CEOk.boolV hv
    simp only [memOf] at hb
    refine ValOp.one' hs.symm (hrun (.bool (!(PE.evB ρ _))) ?_) (CEOk.mkBool rfl)
    rw [hb]
    rfl
  · rename_i k e0
    simp only [Option.some.injEq] at hs
    have hb := CEOk.intV hv
    simp only [memOf] at hb
    refine ValOp.one' hs.symm (hrun (.int k (k.wrap (0 - toI k (e0.ev ρ (.int k))))) ?_) (CEOk.mkInt ?_)
    · rw [hb]; rfl
    · show toI k (ofI k (k.wrap (0 - toI k (e0.ev ρ (.int k))))) = _
      exact toI_ofI (fun hk => by subst hk; exact wrap_u8_in _)
  · rename_i k e0
    simp only [Option.some.injEq] at hs
    have hb := CEOk.intV hv
    simp only [memOf] at hb
    refine ValOp.one' hs.symm (hrun (.int k (bitsI .xor k (if k.signed then -1 else k.max) (toI k (e0.ev ρ (.int k))))) ?_) (CEOk.mkInt ?_)
    · rw [hb]; rfl
    · show toI k (ofI k (bitsI .xor k (if k.signed then -1 else k.max) (toI k (e0.ev ρ (.int k))))) = _
      exact toI_ofI (fun hk => by subst hk; exact wrap_u8_in _)
  · simp at hs
end
end Rk
set_option linter.unusedVariables false
set_option linter.unusedSimpArgs false
namespace Rk
open Go
section
variable {E : Env} {C : Ctx} {sl : Nat → Slot} {ks : Nat → Option KSh} {ρ : Rho} {β : Nat → Option Nat} {a : Act} {w : World}
theorem bytes_foldl : ∀ (l : List UInt8) (s : ByteArray), (((l.map (fun b : UInt8 => (b.toNat : Int))).foldl (fun r n => r.push (UInt8.ofNat n.toNat)) s)).data.toList = s.data.toList ++ l
  | [], s => by simp
  | b :: r, s => by
    simp only [List.map_cons, List.foldl_cons]
    rw [bytes_foldl r]
    have : (s.push (UInt8.ofNat ((b.toNat : Nat) : Int).toNat)).data.toList = s.data.toList ++ [b] := by
      cases s
      simp [ByteArray.push]
    rw [this]; simp
theorem run_bytes {P : Program} {I : Nat → Prop} {J : Nat → Nat → Prop} {v : Value} {xs : List UInt8} (h : ListAt w I (.int .u8) v xs J) :
    ∃ s : ByteArray, (Conv.bytesToString v).run P w = .ok (.string s) w ∧ s.data.toList = xs := by
  obtain ⟨base, cap, h1, h2, h3⟩ := h
  subst h1
  cases base with
  | none =>
    refine ⟨.empty, rfl, ?_⟩
    rcases h3 with h3 | ⟨b, off, q, _⟩
    · have : xs = [] := List.length_eq_zero_iff.1 h3
      rw [this]; rfl
    · simp at q
  | some ad =>
    refine ⟨_, run_bytesToString w ad xs.length cap (xs.map (fun b : UInt8 => (b.toNat : Int))) ?_, ?_⟩
    · have hl : xs.length = (xs.map (fun b : UInt8 => Value.int .u8 (b.toNat : Int))).length := by simp
      have hm : (xs.map (fun b : UInt8 => (b.toNat : Int))).map (Value.int .u8) = xs.map (fun b : UInt8 => Value.int .u8 (b.toNat : Int)) := by simp
      rw [hm, hl]
      refine run_loadCells_list w ad _ (fun j v hj => ?_)
      simp only [List.getElem?_map, Option.map_eq_some_iff] at hj
      obtain ⟨b, hb, rfl⟩ := hj
      have hlt : j < xs.length := by
        rcases Nat.lt_or_ge j xs.length with h' | h'
        · exact h'
        · simp [List.getElem?_eq_none h'] at hb
      rcases h3 with h3 | ⟨bl, off, q1, q2, q3⟩
      · have h3' : xs.length = 0 := h3
        omega
      · simp only [Option.some.injEq] at q1
        subst q1
        have key : cellAt w bl (off + j) = some (.int .u8 ((UInt8.toNat (List.get xs ⟨j, hlt⟩) : Nat) : Int)) := by
          have := q3 j hlt
          simp only [RepC, Ty.n, Nat.mul_one, Nat.add_zero] at this
          exact this
        rw [addr_add]
        have hg : xs.get ⟨j, hlt⟩ = b := by
          have : xs[j]? = some xs[j] := List.getElem?_eq_getElem hlt
          rw [this] at hb
          simpa using hb
        rw [hg] at key
        exact key
    · rw [bytes_foldl]; rfl
def stConvV (E : Env) (A : Acc) (cond : Cond) (d : Option Tmp) (src dst : TypeId) (c : CE) : Option Eff := none
theorem stConv_ok (hT : TabsOk E C) (h : Rel C sl ks ρ β a w) {cond : Cond} (hc : condOk ρ cond) {o : Oper} {s t : TypeId} {x : Operand} {e : Eff}
    (ho : o.op = .convert s t x) (hs : stConv E ⟨sl, ks⟩ cond o.dst s t x = some e) : ValOp C ks ρ β a w o cond e := by
  have hP := hT.P
  simp only [stConv, Option.bind_eq_bind, Option.bind_eq_some_iff] at hs
  obtain ⟨c, hcx, d1, hd1, d2, hd2, hs⟩ := hs
  rw [← hP] at hd1 hd2
  have hv := op1_ok h hc hcx
  have hrun : ∀ r, (convert s t (a.eval x)).run C.P w = .ok r w → (execOp a.eval o).run C.P w = .ok (.value r) w := fun r hr => exec_val (by unfold execOp; rw [ho]) hr
  split at hs
  · rename_i k sk p
    simp only [Option.some.injEq] at hs
    have hb := CEOk.intV hv
    simp only [memOf] at hb
    refine ValOp.one' hs.symm (hrun (.int k (k.wrap (toI sk (p.ev ρ (.int sk))))) ?_) (CEOk.mkInt ?_)
    · rw [hb]
      simp only [convert, Sem.run_bind, run_und hd1, run_und hd2, Result.andThen_ok]
      cases d1 <;> rfl
    · show toI k (ofI k (k.wrap (toI sk (p.ev ρ (.int sk))))) = _
      exact toI_ofI (fun hk => by subst hk; exact wrap_u8_in _)
  · rename_i p
    simp only [Option.some.injEq] at hs
    obtain ⟨s', hb, hs'⟩ := CEOk.strV hv
    refine ValOp.one' hs.symm (hrun (a.eval x) ?_) hv
    rw [hb]
    simp only [convert, Sem.run_bind, run_und hd1, run_und hd2, Result.andThen_ok]
    cases d1 <;> rfl
  · -- bytes to a string
    rename_i c' _ _
    simp only [Option.bind_eq_some_iff] at hs
    obtain ⟨d3, hd3, hs⟩ := hs
    rw [← hP] at hd3
    split at hs
    · have hcv : ∀ base n cap, a.eval x = .slice base n cap → (convert s t (a.eval x)).run C.P w = (Conv.bytesToString (a.eval x)).run C.P w := by
        intro base n cap hx
        rw [hx]
        exact run_convert_bytes_string w s t _ base n cap hd1 hd3 hd2
      split at hs
      · simp only [Option.some.injEq] at hs
        have hx : a.eval x = .slice none 0 0 := hv.2
        refine ValOp.one' hs.symm (hrun (.string .empty) ?_) (CEOk.mkStr rfl)
        rw [hcv _ _ _ hx, hx]
        rfl
      · simp only [Option.bind_eq_some_iff] at hs
        obtain ⟨⟨u, r⟩, hr, hs⟩ := hs
        split at hs
        · rename_i hu
          have hu' : u = .int .u8 := by simpa using hu
          subst hu'
          simp only [Option.some.injEq] at hs
          have hL := readL_ok h hv hr
          obtain ⟨s', hs1, hs2⟩ := run_bytes (P := C.P) hL
          obtain ⟨base, cap, g1, _⟩ := hL
          refine ValOp.one' hs.symm (hrun (.string s') ?_) (CEOk.mkStr ?_)
          · rw [hcv _ _ _ g1]; exact hs1
          · rw [hs2]; rfl
        · simp at hs
    · simp at hs
  · simp at hs
theorem run_call_builtin {P : Program} {o : Oper} {c : Call} {b : Builtin} (ho : o.op = .call c) (hb : c.callee = .builtin b) {r : Next} {w' : World}
    (h : (builtin b c.argTypes o.type (c.args.map fun | .const _ => true | _ => false) (c.args.map a.eval)).run P w = .ok r w') : (execOp a.eval o).run P w = .ok r w' := by
  unfold execOp
  rw [ho]
  simp only [Sem.run_bind, resolve, hb, Sem.run_pure, Result.andThen_ok, invoke]
  exact h
theorem stLen_ok (hT : TabsOk E C) (h : Rel C sl ks ρ β a w) {cond : Cond} (hc : condOk ρ cond) {o : Oper} {c : Call} {t : TypeId} {x : Operand} {ts : List TypeId} {e : Eff}
    (ho : o.op = .call c) (hb : c.callee = .builtin .len) (ha : c.args.toList = [x]) (ht : c.argTypes.toList = t :: ts) (hs : stLen E ⟨sl, ks⟩ cond o.dst t x = some e) : ValOp C ks ρ β a w o cond e := by
  have hP := hT.P
  have ha' : c.args = #[x] := by apply Array.ext'; simpa using ha
  have ht' : c.argTypes[0]? = some t := by rw [← Array.getElem?_toList, ht]; rfl
  have hrun : ∀ r, (Builtin.len_ c.argTypes o.type #[a.eval x]).run C.P w = .ok r w → (execOp a.eval o).run C.P w = .ok (.value r) w := by
    intro r hr
    refine run_call_builtin ho hb ?_
    rw [ha', show Array.map a.eval #[x] = #[a.eval x] by simp]
    exact run_v hr
  simp only [stLen, Option.bind_eq_bind, Option.bind_eq_some_iff] at hs
  obtain ⟨d, hd, hs⟩ := hs
  rw [← hP] at hd
  have hlen : ∀ n v, a.eval x = v → (match d, v with
      | .string, .string s => some (s.size : Int)
      | .array n _, _ => some (n : Int)
      | .slice _, .slice _ n _ => some (n : Int)
      | _, _ => none) = some n → (Builtin.len_ c.argTypes o.type #[a.eval x]).run C.P w = .ok (goInt n) w := by
    intro n v hv hm
    simp only [Builtin.len_, ht', hv]
    split at hm <;> simp only [Option.some.injEq, reduceCtorEq] at hm <;> subst hm <;> simp [run_und hd]
  split at hs
  · simp only [Option.bind_eq_some_iff, Option.some.injEq] at hs
    obtain ⟨e0, he, hs⟩ := hs
    obtain ⟨s, hs1, hs2⟩ := RepC.strV (opT_ok h hc he)
    refine ValOp.one' hs.symm (hrun (goInt s.size) (hlen _ _ hs1 rfl)) (CEOk.mkInt (k := .i64) ?_)
    rw [← size_data, hs2]; rfl
  · simp only [Option.bind_eq_some_iff] at hs
    obtain ⟨c0, hc0, hs⟩ := hs
    have hv := op1_ok h hc hc0
    split at hs
    · simp only [Option.some.injEq] at hs
      have hx : a.eval x = .slice none 0 0 := hv.2
      exact ValOp.one' hs.symm (hrun (goInt (0 : Nat)) (hlen _ _ hx rfl)) (CEOk.mkInt (k := .i64) rfl)
    · simp only [Option.bind_eq_some_iff, Option.some.injEq] at hs
      obtain ⟨⟨u, r⟩, hr, hs⟩ := hs
      obtain ⟨base, cap, g1, _⟩ := readL_ok h hv hr
      exact ValOp.one' hs.symm (hrun (goInt (r.evL ρ u).length) (hlen _ _ g1 rfl)) (CEOk.mkInt (k := .i64) rfl)
  · simp only [Option.some.injEq] at hs
    rename_i n _
    exact ValOp.one' hs.symm (hrun (goInt n) (hlen _ _ rfl rfl)) (CEOk.mkInt (k := .i64) rfl)
  · simp at hs
theorem ite_in {A B : Int} {c : Prop} [Decidable c] (hA : 0 ≤ A ∧ A < 256) (hB : 0 ≤ B ∧ B < 256) : 0 ≤ (if c then A else B) ∧ (if c then A else B) < 256 := by
  split
  · exact hA
  · exact hB
theorem minmax_ok (h : Rel C sl ks ρ β a w) {cond : Cond} (hc : condOk ρ cond) {o : Oper} {c : Call} {x y : Operand} {k : IntKind} {p q : PE}
    (ho : o.op = .call c) (ha : c.args.toList = [x, y]) (hx : opI ⟨sl, ks⟩ cond x = some (k, p)) (hy : opI ⟨sl, ks⟩ cond y = some (k, q)) :
    (c.callee = .builtin .min → ValOp C ks ρ β a w o cond (put1 cond o.dst (.dyn (.int k), .minI k p q))) ∧
    (c.callee = .builtin .max → ValOp C ks ρ β a w o cond (put1 cond o.dst (.dyn (.int k), .maxI k p q))) := by
  have ha' : c.args = #[x, y] := by apply Array.ext'; simpa using ha
  have hxv := opI_ok h hc hx
  have hyv := opI_ok h hc hy
  constructor <;> intro hb
  · refine ValOp.one' rfl (run_call_builtin ho hb ?_) (CEOk.mkInt (k := k) (n := if toI k (q.ev ρ (.int k)) < toI k (p.ev ρ (.int k)) then toI k (q.ev ρ (.int k)) else toI k (p.ev ρ (.int k))) ?_)
    · rw [ha']
      refine run_v ?_
      simp [Builtin.min_, Builtin.min2, hxv, hyv]
    · refine toI_ofI (fun hk => ?_)
      subst hk
      exact ite_in (toI_u8 (q.ev ρ (.int .u8))) (toI_u8 (p.ev ρ (.int .u8)))
  · refine ValOp.one' rfl (run_call_builtin ho hb ?_) (CEOk.mkInt (k := k) (n := if toI k (q.ev ρ (.int k)) > toI k (p.ev ρ (.int k)) then toI k (q.ev ρ (.int k)) else toI k (p.ev ρ (.int k))) ?_)
    · rw [ha']
      refine run_v ?_
      simp [Builtin.max_, Builtin.max2, hxv, hyv]
    · refine toI_ofI (fun hk => ?_)
      subst hk
      exact ite_in (toI_u8 (q.ev ρ (.int .u8))) (toI_u8 (p.ev ρ (.int .u8)))
end
end Rk
