/-
  The evaluator of the model's code: its definitions.
-/
import Derived.Recover
import Derived.Orders
namespace Go.Eng

/-! ### Paths: bijective numbers of base 4, the lowest digit first -/
inductive Pt where
  | e
  | p0 (r : Pt)
  | p1 (r : Pt)
  | p2 (r : Pt)
  | p3 (r : Pt)
instance : Inhabited Pt := ⟨.e⟩
def Pt.same : Pt → Pt → Bool
  | .e, .e => true
  | .p0 a, .p0 b => Pt.same a b
  | .p1 a, .p1 b => Pt.same a b
  | .p2 a, .p2 b => Pt.same a b
  | .p3 a, .p3 b => Pt.same a b
  | _, _ => false
theorem Pt.same_eq : ∀ a b : Pt, Pt.same a b = true ↔ a = b
  | .e, b => by cases b <;> simp [Pt.same]
  | .p0 a, b => by cases b <;> simp [Pt.same, Pt.same_eq a]
  | .p1 a, b => by cases b <;> simp [Pt.same, Pt.same_eq a]
  | .p2 a, b => by cases b <;> simp [Pt.same, Pt.same_eq a]
  | .p3 a, b => by cases b <;> simp [Pt.same, Pt.same_eq a]
instance : DecidableEq Pt := fun a b => decidable_of_iff (Pt.same a b = true) (Pt.same_eq a b)
def Pt.succ : Pt → Pt
  | .e => .p0 .e
  | .p0 r => .p1 r
  | .p1 r => .p2 r
  | .p2 r => .p3 r
  | .p3 r => .p0 r.succ
def Pt.toNat : Pt → Nat
  | .e => 0
  | .p0 r => 4 * r.toNat + 1
  | .p1 r => 4 * r.toNat + 2
  | .p2 r => 4 * r.toNat + 3
  | .p3 r => 4 * r.toNat + 4
def ptGo : Nat → Nat → Pt
  | 0, _ => .e
  | _ + 1, 0 => .e
  | f + 1, m + 1 => match m % 4 with
    | 0 => .p0 (ptGo f (m / 4))
    | 1 => .p1 (ptGo f (m / 4))
    | 2 => .p2 (ptGo f (m / 4))
    | _ => .p3 (ptGo f (m / 4))
def ptOf (n : Nat) : Pt := ptGo n n

/-! ### Tries -/
inductive Q (α : Type) where
  | nil
  | node (v : Option α) (a b c d : Q α)
def Q.val {α : Type} : Q α → Option α
  | .nil => none
  | .node v _ _ _ _ => v
def Q.c0 {α : Type} : Q α → Q α
  | .nil => .nil
  | .node _ a _ _ _ => a
def Q.c1 {α : Type} : Q α → Q α
  | .nil => .nil
  | .node _ _ a _ _ => a
def Q.c2 {α : Type} : Q α → Q α
  | .nil => .nil
  | .node _ _ _ a _ => a
def Q.c3 {α : Type} : Q α → Q α
  | .nil => .nil
  | .node _ _ _ _ a => a
def Q.at {α : Type} (t : Q α) : Pt → Option α
  | .e => t.val
  | .p0 r => t.c0.at r
  | .p1 r => t.c1.at r
  | .p2 r => t.c2.at r
  | .p3 r => t.c3.at r
def Q.put {α : Type} (v : Option α) (t : Q α) : Pt → Q α
  | .e => .node v t.c0 t.c1 t.c2 t.c3
  | .p0 r => .node t.val (Q.put v t.c0 r) t.c1 t.c2 t.c3
  | .p1 r => .node t.val t.c0 (Q.put v t.c1 r) t.c2 t.c3
  | .p2 r => .node t.val t.c0 t.c1 (Q.put v t.c2 r) t.c3
  | .p3 r => .node t.val t.c0 t.c1 t.c2 (Q.put v t.c3 r)
def Q.get {α : Type} (t : Q α) (n : Nat) : Option α := t.at (ptOf n)
def Q.set {α : Type} (t : Q α) (n : Nat) (v : Option α) : Q α := t.put v (ptOf n)

/-! ### Abstract values -/
inductive ACap where
  | ex (c : Nat)
  | op (k : Nat)

inductive AV where
  | bool (b : Bool)
  | int (k : IntKind) (n : Int)
  | str (s : ByteArray)
  | nilp
  | ptr (b : Pt) (off : Nat)
  | nils
  | sl (b : Pt) (off len : Nat) (c : ACap)
  | nilm
  | mp (b : Pt)
  | fn (f : Nat) (first captured : List AV)
  | nilf
  | ifc (t : TypeId) (v : AV)
  | nili
  | agg (cs : List AV)
  | tup (vs : List AV)
instance : Inhabited AV := ⟨.nilp⟩

inductive AObj where
  | cells (n : Nat) (cs : Q AV) (opn : Option Nat)
  | map (es : List (AV × AV))

structure AHeap where
  tr : Q AObj
  next : Pt

def AHeap.get (h : AHeap) (b : Pt) : Option AObj := h.tr.at b
def AHeap.put (h : AHeap) (b : Pt) (o : Option AObj) : AHeap := ⟨h.tr.put o b, h.next⟩
/-- a new block: its number is h.next -/
def AHeap.new (h : AHeap) (o : AObj) : AHeap := ⟨h.tr.put (some o) h.next, h.next.succ⟩
/-- a number that names no block -/
def AHeap.skip (h : AHeap) : AHeap := ⟨h.tr, h.next.succ⟩

/-- does a value take one cell? -/
def AV.sc : AV → Bool
  | .agg _ => false
  | .tup _ => false
  | _ => true
def allSc : List AV → Bool
  | [] => true
  | v :: vs => v.sc && allSc vs
/-- a value's cells -/
def AV.flat : AV → Option (List AV)
  | .agg cs => some cs
  | .tup _ => none
  | v => some [v]
/-! ### Constants -/
mutual
def ofV : Value → Option AV
  | .bool b => some (.bool b)
  | .int k n => some (.int k n)
  | .string s => some (.str s)
  | .pointer none => some .nilp
  | .slice none 0 0 => some .nils
  | .map none => some .nilm
  | .nilFunc => some .nilf
  | .nilIface => some .nili
  | .agg ⟨cs⟩ => (match ofVs cs with | some l => (match allSc l with | true => some (.agg l) | false => none) | none => none)
  | .tuple ⟨cs⟩ => (ofVs cs).map .tup
  | _ => none
def ofVs : List Value → Option (List AV)
  | [] => some []
  | v :: vs => match ofV v with
    | none => none
    | some a => match ofVs vs with
      | none => none
      | some r => some (a :: r)
end

/-! ### Integers -/
def ltI : Int → Int → Bool
  | .ofNat a, .ofNat b => Nat.blt a b
  | .ofNat _, .negSucc _ => false
  | .negSucc _, .ofNat _ => true
  | .negSucc a, .negSucc b => Nat.blt b a
def eqI : Int → Int → Bool
  | .ofNat a, .ofNat b => Nat.beq a b
  | .negSucc a, .negSucc b => Nat.beq a b
  | _, _ => false

/-! ### Lists of values in tries -/
def trOfFrom : List AV → Nat → Q AV → Q AV
  | [], _, t => t
  | v :: vs, i, t => trOfFrom vs (i + 1) (t.set i (some v))
def trOf (vs : List AV) : Q AV := trOfFrom vs 0 .nil
def readN (t : Q AV) : Nat → Nat → Option (List AV)
  | 0, _ => some []
  | n + 1, i => match t.get i with
    | none => none
    | some v => match readN t n (i + 1) with
      | none => none
      | some r => some (v :: r)
def writeN : List AV → Nat → Q AV → Q AV := trOfFrom
def lenF {α : Type} : List α → Nat
  | [] => 0
  | _ :: l => lenF l + 1
def nthF {α : Type} : List α → Nat → Option α
  | [], _ => none
  | x :: _, 0 => some x
  | _ :: l, n + 1 => nthF l n
def takeF {α : Type} : Nat → List α → Option (List α)
  | 0, _ => some []
  | _ + 1, [] => none
  | n + 1, x :: l => match takeF n l with | none => none | some r => some (x :: r)
def dropF {α : Type} : Nat → List α → List α
  | 0, l => l
  | _ + 1, [] => []
  | n + 1, _ :: l => dropF n l

/-! ### Results -/
inductive R where
  | fail
  | val (v : AV) (h : AHeap)
  | skip (h : AHeap)
  | call (f : Nat) (args : List AV) (h : AHeap)
  | defer (f : Nat) (args : List AV) (h : AHeap)
  | panic (v : AV) (h : AHeap)
abbrev Regs := Q AV
abbrev OpF := Regs → AHeap → R
/-- an operation, made ready -/
inductive Cl where
  | none
  | mk (f : OpF)

def R.vl (v : Option AV) (h : AHeap) : R := match v with | some v => .val v h | .none => .fail

/-! ### Operands -/
inductive RV where
  | bad
  | reg (b : Pt)
  | cst (v : AV)
def rv : Operand → RV
  | .tmp t => .reg (ptOf t)
  | .const v => (match ofV v with | some v => .cst v | none => .bad)
  | .func f => .cst (.fn f [] [])
  | .global _ => .bad
def RV.get (x : RV) (T : Regs) : Option AV := match x with
  | .reg b => T.at b
  | .cst v => some v
  | .bad => none
def rvs : List Operand → List RV
  | [] => []
  | x :: xs => rv x :: rvs xs
def RV.gets (T : Regs) : List RV → Option (List AV)
  | [] => some []
  | x :: xs => match x.get T with
    | none => none
    | some v => match RV.gets T xs with
      | none => none
      | some r => some (v :: r)

section
variable (P : Program)

def sizeT (t : TypeId) : Option Nat := (P.info? t).map (·.size)
def zeroT (t : TypeId) : Option AV := match P.info? t with
  | some i => (match i.zero with | some z => ofV z | none => none)
  | none => none
/-- the cells of a type's zero value -/
def zeroC (t : TypeId) : Option (List AV) := match zeroT P t with
  | some z => z.flat
  | none => none
def aggT (t : TypeId) : Option Bool := match P.underlying t with
  | some (.struct _) | some (.array _ _) => some true
  | some _ => some false
  | none => none

/-- one operand -/
def un (x : Operand) (f : AV → AHeap → R) : Cl := match rv x with
  | .bad => .none
  | .cst v => .mk fun _ h => f v h
  | .reg b => .mk fun T h => match T.at b with | some v => f v h | none => .fail
/-- two operands -/
def bi (x y : Operand) (f : AV → AV → AHeap → R) : Cl := match rv x, rv y with
  | .bad, _ => .none
  | _, .bad => .none
  | .reg b, .reg c => .mk fun T h => (match T.at b with | some v => (match T.at c with | some w => f v w h | none => .fail) | none => .fail)
  | .reg b, .cst w => .mk fun T h => (match T.at b with | some v => f v w h | none => .fail)
  | .cst v, .reg c => .mk fun T h => (match T.at c with | some w => f v w h | none => .fail)
  | .cst v, .cst w => .mk fun _ h => f v w h
def many (xs : List RV) (f : List AV → AHeap → R) : Cl := .mk fun T h => match RV.gets T xs with | some l => f l h | none => .fail

/-! ### Memory -/
def newVarD (t : Q AV) (n : Nat) (h : AHeap) : R := .val (.ptr h.next 0) (h.new (.cells n t none))
def boxD (v : AV) (h : AHeap) : R := match v.flat with
  | some cs => newVarD (trOf cs) (lenF cs) h
  | none => .fail
def load1 (a : AV) (h : AHeap) : R := match a with
  | .ptr b off => (match h.get b with
    | some (.cells _ cs _) => (match cs.get off with | some v => .val v h | none => .fail)
    | _ => .fail)
  | _ => .fail
def loadN (n : Nat) (a : AV) (h : AHeap) : R := match a with
  | .ptr b off => (match h.get b with
    | some (.cells _ cs _) => (match readN cs n off with | some l => .val (.agg l) h | none => .fail)
    | _ => .fail)
  | _ => .fail
def storeL (s : Nat) (a : AV) (l : List AV) (h : AHeap) : R := match a with
  | .ptr b off => (match h.get b with
    | some (.cells n cs o) => bif Nat.beq s (lenF l) && Nat.ble (off + s) n then .skip (h.put b (some (.cells n (writeN l off cs) o))) else .fail
    | _ => .fail)
  | _ => .fail
def storeD (s : Nat) (a v : AV) (h : AHeap) : R := match v.flat with
  | some l => storeL s a l h
  | none => .fail
def loadP (t : TypeId) (a : Operand) : Cl := match aggT P t, sizeT P t with
  | some true, some n => un a (loadN n)
  | some false, some _ => un a load1
  | _, _ => .none
def storeP (t : TypeId) (a x : Operand) : Cl := match sizeT P t with
  | some s => bi a x (storeD s)
  | none => .none

/-! ### Equality -/
end

def sameK : IntKind → IntKind → Bool
  | .i8, .i8 | .i16, .i16 | .i32, .i32 | .i64, .i64 | .u8, .u8 | .u16, .u16 | .u32, .u32 | .u64, .u64 => true
  | _, _ => false
/-- two structs of n integers -/
def eqIs : Nat → List AV → List AV → Option Bool
  | 0, [], [] => some true
  | n + 1, .int j a :: as, .int k b :: bs => (match sameK j k with
    | true => (match eqIs n as bs with | some r => some (eqI a b && r) | none => none)
    | false => none)
  | _, _, _ => none
section
variable (P : Program)
/-- is a type a struct of integers, a cell each? -/
def flatFields : List Field → Nat → Bool
  | [], _ => true
  | f :: fs, i => Nat.beq f.offset i && (f.name != "_") && (match P.underlying f.type with | some (.int _) => true | _ => false) && flatFields fs (i + 1)
/-- how many integers a struct of integers has -/
def flatT (t : TypeId) : Option Nat := match P.underlying t with
  | some (.struct fs) => (match flatFields P fs.toList 0 && !P.stoodInHeld t && !P.eqGuardType P.depth t with
    | true => some (lenF fs.toList)
    | false => none)
  | _ => none
end

def R.int (k : IntKind) (n : Int) (h : AHeap) : R := .val (.int k n) h
def R.wrap (k : IntKind) (n : Int) (h : AHeap) : R := .val (.int k (k.wrap n)) h
def R.bool (b : Bool) (h : AHeap) : R := match b with | true => .val (.bool true) h | false => .val (.bool false) h

def ints (f : IntKind → Int → Int → AHeap → R) (g : AV → AV → AHeap → R) (v w : AV) (h : AHeap) : R := match v with
  | .int k a => (match w with
    | .int j b => (match sameK k j with | true => f k a b h | false => .fail)
    | _ => .fail)
  | v => g v w h

/-- how values of a type are compared -/
inductive EqK where
  | no | str | bool | ptr | sl | mp | fn | ifc | flat (n : Nat)
/-- is it nil? of two values one of which is nil -/
def eqPtr : AV → AV → Option Bool
  | .nilp, .nilp => some true
  | .nilp, .ptr .. => some false
  | .ptr .., .nilp => some false
  | _, _ => none
def eqSl : AV → AV → Option Bool
  | .nils, .nils => some true
  | .nils, .sl .. => some false
  | .sl .., .nils => some false
  | _, _ => none
def eqMp : AV → AV → Option Bool
  | .nilm, .nilm => some true
  | .nilm, .mp _ => some false
  | .mp _, .nilm => some false
  | _, _ => none
def eqFn : AV → AV → Option Bool
  | .nilf, .nilf => some true
  | .nilf, .fn .. => some false
  | .fn .., .nilf => some false
  | _, _ => none
/-- lit: one side is a constant -/
def eqIfc (lit : Bool) : AV → AV → Option Bool
  | .nili, .nili => (match lit with | true => some true | false => none)
  | .nili, .ifc .. => some false
  | .ifc .., .nili => some false
  | _, _ => none
def eqStr : AV → AV → Option Bool
  | .str m, .str n => some (m.toList == n.toList)
  | _, _ => none
def eqBool : AV → AV → Option Bool
  | .bool m, .bool n => some (m == n)
  | _, _ => none
def eqFlat (k : Nat) : AV → AV → Option Bool
  | .agg m, .agg n => eqIs k m n
  | _, _ => none
def eqOf (lit : Bool) : EqK → AV → AV → Option Bool
  | .no, _, _ => none
  | .str, v, w => eqStr v w
  | .bool, v, w => eqBool v w
  | .ptr, v, w => eqPtr v w
  | .sl, v, w => eqSl v w
  | .mp, v, w => eqMp v w
  | .fn, v, w => eqFn v w
  | .ifc, v, w => eqIfc lit v w
  | .flat k, v, w => eqFlat k v w
/-- '==' and '!=' on what is no integer -/
def eqD (neg lit : Bool) (k : EqK) (v w : AV) (h : AHeap) : R := match eqOf lit k v w with
  | some r => .bool (neg ^^ r) h
  | none => .fail
def addD (v w : AV) (h : AHeap) : R := match v, w with
  | .str m, .str n => bif Nat.blt (m.size + n.size) 1000000 then .val (.str (m ++ n)) h else .fail
  | _, _ => .fail
def noD (_ _ : AV) (_ : AHeap) : R := .fail
def isCst : Operand → Bool
  | .const _ => true
  | _ => false

def shiftD (left : Bool) (v w : AV) (h : AHeap) : R := match v with
  | .int k a => (match w with
    | .int _ (.ofNat y) => (match left with
      | true => .wrap k (a * Int.ofNat (2 ^ (min y k.bits))) h
      | false => .int k (a.fdiv (Int.ofNat (2 ^ (min y k.bits)))) h)
    | _ => .fail)
  | _ => .fail

section
variable (P : Program)
def eqK (t : TypeId) : EqK := match P.underlying t with
  | some .string => .str
  | some .bool => .bool
  | some (.pointer _) => .ptr
  | some (.slice _) => .sl
  | some (.map _ _) => .mp
  | some (.func _ _ _) => .fn
  | some (.interface _) => .ifc
  | some (.struct _) => (match flatT P t with | some n => .flat n | none => .no)
  | _ => .no
def binP (op : BinOp) (t : TypeId) (x y : Operand) : Cl := match op with
  | .add => bi x y (ints (fun k a b h => .wrap k (a + b) h) addD)
  | .sub => bi x y (ints (fun k a b h => .wrap k (a - b) h) noD)
  | .mul => bi x y (ints (fun k a b h => .wrap k (a * b) h) noD)
  | .quo => bi x y (ints (fun k a b h => bif eqI b 0 then .fail else .wrap k (a.tdiv b) h) noD)
  | .rem => bi x y (ints (fun k a b h => bif eqI b 0 then .fail else .int k (a.tmod b) h) noD)
  | .and => bi x y (ints (fun k a b h => .wrap k (BitVec.ofInt k.bits a &&& BitVec.ofInt k.bits b).toNat h) noD)
  | .or => bi x y (ints (fun k a b h => .wrap k (BitVec.ofInt k.bits a ||| BitVec.ofInt k.bits b).toNat h) noD)
  | .xor => bi x y (ints (fun k a b h => .wrap k (BitVec.ofInt k.bits a ^^^ BitVec.ofInt k.bits b).toNat h) noD)
  | .andNot => bi x y (ints (fun k a b h => .wrap k (BitVec.ofInt k.bits a &&& ~~~(BitVec.ofInt k.bits b)).toNat h) noD)
  | .eql => bi x y (ints (fun _ a b h => .bool (eqI a b) h) (eqD false (isCst x || isCst y) (eqK P t)))
  | .neq => bi x y (ints (fun _ a b h => .bool (!eqI a b) h) (eqD true (isCst x || isCst y) (eqK P t)))
  | .lss => bi x y (ints (fun _ a b h => .bool (ltI a b) h) noD)
  | .leq => bi x y (ints (fun _ a b h => .bool (!ltI b a) h) noD)
  | .gtr => bi x y (ints (fun _ a b h => .bool (ltI b a) h) noD)
  | .geq => bi x y (ints (fun _ a b h => .bool (!ltI a b) h) noD)
  | .shl => bi x y (shiftD true)
  | .shr => bi x y (shiftD false)

/-! ### Conversions -/
def bytesOfA : List AV → Option (List UInt8)
  | [] => some []
  | .int .u8 n :: l => (match bytesOfA l with | some r => some (UInt8.ofNat n.toNat :: r) | none => none)
  | _ => none
def toIntD (k : IntKind) (v : AV) (h : AHeap) : R := match v with
  | .int _ n => .wrap k n h
  | _ => .fail
def toStrD (v : AV) (h : AHeap) : R := match v with
  | .nils => .val (.str .empty) h
  | .sl b off len _ => (match h.get b with
    | some (.cells _ cs _) => (match readN cs len off with
      | some l => (match bytesOfA l with | some bs => .val (.str ⟨⟨bs⟩⟩) h | none => .fail)
      | none => .fail)
    | _ => .fail)
  | _ => .fail
def convP (s d : TypeId) (x : Operand) : Cl := match P.underlying d with
  | some (.int k) => (match P.underlying s with | some _ => un x (toIntD k) | none => .none)
  | some .string => (match P.underlying s with
    | some (.slice e) => (match P.underlying e with
      | some (.int .u8) => un x toStrD
      | _ => .none)
    | _ => .none)
  | _ => .none

/-! ### Slices -/
/-- an optional bound -/
inductive BV where
  | no
  | bad
  | reg (b : Pt)
  | cst (n : Nat)
def bv : Option Operand → BV
  | none => .no
  | some x => (match rv x with
    | .reg b => .reg b
    | .cst (.int _ (.ofNat n)) => .cst n
    | _ => .bad)
def BV.ok : BV → Bool
  | .bad => false
  | _ => true
/-- the bound, if it is at most y -/
def BV.get {β : Type} (x : BV) (T : Regs) (dflt y : Nat) (bad : β) (k : Nat → β) : β := match x with
  | .no => k dflt
  | .cst n => (match Nat.ble n y with | true => k n | false => bad)
  | .reg b => (match T.at b with
    | some (.int _ (.ofNat n)) => (match Nat.ble n y with | true => k n | false => bad)
    | _ => bad)
  | .bad => bad
def cutD (b : Pt) (off sz l h m : Nat) (H : AHeap) : R :=
  .val (.sl b (bif Nat.beq m l then off else off + l * sz) (h - l) (.ex (m - l))) H
def sliceEx (lo hi mx : BV) (sz : Nat) (b : Pt) (off len c : Nat) (T : Regs) (H : AHeap) : R :=
  mx.get T c c .fail fun m => hi.get T len m .fail fun h => lo.get T 0 h .fail fun l => cutD b off sz l h m H
def sliceOp (lo hi mx : BV) (sz : Nat) (b : Pt) (off len k : Nat) (T : Regs) (H : AHeap) : R := match mx with
  | .no => hi.get T len len .fail fun h => lo.get T 0 h .fail fun l => (match l with
    | 0 => .val (.sl b off h (.op k)) H
    | l + 1 => (match Nat.blt (l + 1) len with
      | true => .val (.sl b (off + (l + 1) * sz) (h - (l + 1)) (.op (k + (l + 1)))) H
      | false => .val (.sl H.next 0 0 (.op 0)) H.skip))
  | mx => mx.get T len len .fail fun m => hi.get T len m .fail fun h => lo.get T 0 h .fail fun l => cutD b off sz l h m H
def sliceD (lo hi mx : BV) (sz : Nat) (v : AV) (T : Regs) (H : AHeap) : R := match v with
  | .nils => mx.get T 0 0 .fail fun _ => hi.get T 0 0 .fail fun _ => lo.get T 0 0 .fail fun _ => .val .nils H
  | .sl b off len c => (match c with
    | .ex c => sliceEx lo hi mx sz b off len c T H
    | .op k => sliceOp lo hi mx sz b off len k T H)
  | _ => .fail
def substrD (lo hi : BV) (v : AV) (T : Regs) (H : AHeap) : R := match v with
  | .str s => hi.get T s.size s.size .fail fun h => lo.get T 0 h .fail fun l => .val (.str (s.extract l h)) H
  | _ => .fail
def subarrD (lo hi mx : BV) (n sz : Nat) (v : AV) (T : Regs) (H : AHeap) : R := match v with
  | .ptr b off => sliceEx lo hi mx sz b off n n T H
  | _ => .fail
def un' (x : Operand) (f : AV → Regs → AHeap → R) : Cl := match rv x with
  | .bad => .none
  | .cst v => .mk fun T h => f v T h
  | .reg b => .mk fun T h => match T.at b with | some v => f v T h | none => .fail
def sliceP (t : TypeId) (x : Operand) (lo hi mx : Option Operand) : Cl :=
  match (bv lo).ok && (bv hi).ok && (bv mx).ok && (mx.isNone || hi.isSome) with
  | false => .none
  | true => (match P.underlying t with
    | some .string => (match mx with | none => un' x (substrD (bv lo) (bv hi)) | some _ => .none)
    | some (.slice e) => (match sizeT P e with | some sz => un' x (sliceD (bv lo) (bv hi) (bv mx) sz) | none => .none)
    | some (.array n e) => (match sizeT P e with | some sz => un' x (subarrD (bv lo) (bv hi) (bv mx) n sz) | none => .none)
    | _ => .none)

/-! ### Parts -/
def fieldAddrD (d : Nat) (v : AV) (h : AHeap) : R := match v with
  | .ptr b off => .val (.ptr b (off + d)) h
  | _ => .fail
def fieldAddrP (s : TypeId) (x : Operand) (f : Nat) : Cl := match P.underlying s with
  | some (.struct fs) => (match nthF fs.toList f with
    | some fd => (match sizeT P fd.type with
      | some (_ + 1) => un x (fieldAddrD fd.offset)
      | _ => .none)
    | none => .none)
  | _ => .none
def part1 (off : Nat) (v : AV) (h : AHeap) : R := match v with
  | .agg cs => .vl (nthF cs off) h
  | _ => .fail
def partN (off n : Nat) (v : AV) (h : AHeap) : R := match v with
  | .agg cs => (match takeF n (dropF off cs) with | some l => .val (.agg l) h | none => .fail)
  | _ => .fail
def fieldP (t : TypeId) (x : Operand) (f : Nat) : Cl := match P.underlying t with
  | some (.struct fs) => (match nthF fs.toList f with
    | some fd => (match aggT P fd.type, sizeT P fd.type with
      | some true, some n => un x (partN fd.offset n)
      | some false, some _ => un x (part1 fd.offset)
      | _, _ => .none)
    | none => .none)
  | _ => .none
def indexAddrArr (n sz : Nat) (v i : AV) (h : AHeap) : R := match v with
  | .ptr b off => (match i with
    | .int _ (.ofNat m) => (match Nat.blt m n with | true => .val (.ptr b (off + m * sz)) h | false => .fail)
    | _ => .fail)
  | _ => .fail
def indexAddrSl (sz : Nat) (v i : AV) (h : AHeap) : R := match v with
  | .sl b off n _ => (match i with
    | .int _ (.ofNat m) => (match Nat.blt m n with | true => .val (.ptr b (off + m * sz)) h | false => .fail)
    | _ => .fail)
  | _ => .fail
def indexAddrP (t : TypeId) (x i : Operand) : Cl := match P.underlying t with
  | some (.array n e) => (match sizeT P e with | some sz => bi x i (indexAddrArr n sz) | none => .none)
  | some (.slice e) => (match sizeT P e with | some sz => bi x i (indexAddrSl sz) | none => .none)
  | _ => .none
def indexArr1 (n : Nat) (v i : AV) (h : AHeap) : R := match v with
  | .agg cs => (match i with
    | .int _ (.ofNat m) => (match Nat.blt m n with | true => .vl (nthF cs m) h | false => .fail)
    | _ => .fail)
  | _ => .fail
def indexStr (v i : AV) (h : AHeap) : R := match v with
  | .str s => (match i with
    | .int _ (.ofNat m) => (match s.data[m]? with | some b => .val (.int .u8 (.ofNat b.toNat)) h | none => .fail)
    | _ => .fail)
  | _ => .fail
def indexP (t : TypeId) (x i : Operand) : Cl := match P.underlying t with
  | some (.array n e) => (match aggT P e, sizeT P e with | some false, some 1 => bi x i (indexArr1 n) | _, _ => .none)
  | some .string => bi x i indexStr
  | _ => .none

/-! ### Maps -/
/-- how keys of a type are compared -/
inductive KeyK where
  | int
  | flat (n : Nat)
def eqKey (kk : KeyK) (a b : AV) : Option Bool := match kk with
  | .int => (match a, b with
    | .int j m, .int k n => (match sameK j k with | true => some (eqI m n) | false => none)
    | _, _ => none)
  | .flat k => eqFlat k a b
def findA (kk : KeyK) (k : AV) : List (AV × AV) → Option (Option AV)
  | [] => some none
  | (j, v) :: es => match eqKey kk k j with
    | some true => some (some v)
    | some false => findA kk k es
    | none => none
def updA (kk : KeyK) (k w : AV) : List (AV × AV) → Option (List (AV × AV))
  | [] => some [(k, w)]
  | (j, v) :: es => match eqKey kk k j with
    | some true => some ((k, w) :: es)
    | some false => (match updA kk k w es with | some r => some ((j, v) :: r) | none => none)
    | none => none
def delA (kk : KeyK) (k : AV) : List (AV × AV) → Option (List (AV × AV))
  | [] => some []
  | (j, v) :: es => match eqKey kk k j with
    | some true => some es
    | some false => (match delA kk k es with | some r => some ((j, v) :: r) | none => none)
    | none => none
/-- is a value a key of that sort? -/
def isKey (kk : KeyK) (a : AV) : Bool := match eqKey kk a a with
  | some _ => true
  | none => false
def keyT (t : TypeId) : Option KeyK := match P.underlying t with
  | some (.int _) => some .int
  | _ => (match flatT P t with | some n => some (.flat n) | none => none)
def lookRes (ok : Bool) (z : AV) (h : AHeap) : Option (Option AV) → R
  | some (some v) => .val (bif ok then .tup [v, .bool true] else v) h
  | some none => .val (bif ok then .tup [z, .bool false] else z) h
  | none => .fail
def lookupD (kk : KeyK) (ok : Bool) (z : AV) (m k : AV) (h : AHeap) : R := match isKey kk k with
  | false => .fail
  | true => (match m with
    | .nilm => lookRes ok z h (some none)
    | .mp b => (match h.get b with | some (.map es) => lookRes ok z h (findA kk k es) | _ => .fail)
    | _ => .fail)
def lookupP (t : TypeId) (m k : Operand) (ok : Bool) : Cl := match P.underlying t with
  | some (.map kt e) => (match keyT P kt, zeroT P e with | some kk, some z => bi m k (lookupD kk ok z) | _, _ => .none)
  | _ => .none
def mapUpdateD (kk : KeyK) (m k v : AV) (h : AHeap) : R := match isKey kk k with
  | false => .fail
  | true => (match m with
    | .mp b => (match h.get b with
      | some (.map es) => (match updA kk k v es with
        | some es => .skip (h.put b (some (.map es)))
        | none => .fail)
      | _ => .fail)
    | _ => .fail)
def mapUpdateL (kk : KeyK) (l : List AV) (h : AHeap) : R := match l with
  | [m, k, v] => mapUpdateD kk m k v h
  | _ => .fail
def mapUpdateP (t : TypeId) (m k v : Operand) : Cl := match P.underlying t with
  | some (.map kt _) => (match keyT P kt with
    | some kk => many (rvs [m, k, v]) (mapUpdateL kk)
    | none => .none)
  | _ => .none
def deleteD (kk : KeyK) (m k : AV) (h : AHeap) : R := match isKey kk k with
  | false => .fail
  | true => (match m with
    | .mp b => (match h.get b with
      | some (.map es) => (match delA kk k es with
        | some es => .val (.tup []) (h.put b (some (.map es)))
        | none => .fail)
      | _ => .fail)
    | _ => .fail)

/-! ### Builtins -/
def lenStr (v : AV) (h : AHeap) : R := match v with | .str s => .int .i64 (.ofNat s.size) h | _ => .fail
def lenSl (v : AV) (h : AHeap) : R := match v with
  | .nils => .val (.int .i64 0) h
  | .sl _ _ n _ => .val (.int .i64 (.ofNat n)) h
  | _ => .fail
def lenMap (v : AV) (h : AHeap) : R := match v with
  | .nilm => .val (.int .i64 0) h
  | .mp b => (match h.get b with | some (.map es) => .val (.int .i64 (.ofNat (lenF es))) h | _ => .fail)
  | _ => .fail
def lenP (t : TypeId) (x : Operand) : Cl := match P.underlying t with
  | some .string => un x lenStr
  | some (.array n _) => un x (fun _ h => .val (.int .i64 (.ofNat n)) h)
  | some (.slice _) => un x lenSl
  | some (.map _ _) => un x lenMap
  | _ => .none
def capSl (v : AV) (h : AHeap) : R := match v with
  | .nils => .val (.int .i64 0) h
  | .sl _ _ _ (.ex c) => .val (.int .i64 (.ofNat c)) h
  | _ => .fail
def capP (t : TypeId) (x : Operand) : Cl := match P.underlying t with
  | some (.slice _) => un x capSl
  | _ => .none

/-- the first n elements' cells of what is appended or copied -/
def firstA (sz n : Nat) (x : AV) (h : AHeap) : Option (List AV) :=
  match x with
  | .nils => some []
  | .sl b off _ _ => (match n * sz with
    | 0 => some []
    | m + 1 => (match h.get b with | some (.cells _ cs _) => readN cs (m + 1) off | _ => none))
  | .str s => (match Nat.beq sz 1 with | true => takeF n (s.data.toList.map fun b => AV.int .u8 (.ofNat b.toNat)) | false => none)
  | _ => none
def lenX : AV → Option Nat
  | .nils => some 0
  | .sl _ _ n _ => some n
  | .str s => some s.size
  | _ => none
def repF (n : Nat) (z : List AV) : List AV := match n with | 0 => [] | n + 1 => z ++ repF n z

/-- cells of a new block that is open -/
def appNew (sz need : Nat) (t : Q AV) (h : AHeap) : R :=
  .val (.sl h.next 0 need (.op 0)) (h.new (.cells (need * sz) t (some sz)))
def appZero (sz bytes : Nat) (z : List AV) (s x : AV) (h : AHeap) : R := match s with
  | .nils => (match x with
    | .int _ (.ofNat (n + 1)) => (match Nat.ble (n + 1) 100000 && Nat.ble ((n + 1) * bytes) 100000000 with
      | true => appNew sz (n + 1) (trOf (repF (n + 1) z)) h
      | false => .fail)
    | _ => .fail)
  | _ => .fail
/-- in place -/
def appIn (b : Pt) (off len need : Nat) (c : ACap) (sz m : Nat) (cs : Q AV) (o : Option Nat) (new : List AV) (h : AHeap) : R :=
  .val (.sl b off need c) (h.put b (some (.cells m (writeN new (off + len * sz) cs) o)))
def appEx (sz : Nat) (b : Pt) (off len cp need : Nat) (s : AV) (new : List AV) (h : AHeap) : R :=
  match Nat.ble need cp with
  | true => (match h.get b with
    | some (.cells m cs o) => (match Nat.ble (off + need * sz) m with
      | true => appIn b off len need (.ex cp) sz m cs o new h
      | false => .fail)
    | _ => .fail)
  | false => (match Nat.ble cp 1000000 with
    | true => (match firstA sz len s h with
      | some old => appNew sz need (writeN new (len * sz) (trOf old)) h
      | none => .fail)
    | false => .fail)
def appOp (sz : Nat) (b : Pt) (off len k need : Nat) (new : List AV) (h : AHeap) : R := match h.get b with
  | some (.cells m cs (some sz')) => (match Nat.beq sz sz' && Nat.beq off (k * sz) with
    | true => (match Nat.ble (off + need * sz) m with
      | true => appIn b off len need (.op k) sz m cs (some sz') new h
      | false => (match off with
        | 0 => appNew sz need (writeN new (len * sz) cs) (h.put b none)
        | off => (match readN cs (len * sz) off with
          | some old => appNew sz need (writeN new (len * sz) (trOf old)) (h.put b none)
          | none => .fail)))
    | false => .fail)
  | _ => .fail
def appD (sz bytes : Nat) (s x : AV) (h : AHeap) : R := match lenX x with
  | none => .fail
  | some n => (match Nat.ble n 1000000 with
    | false => .fail
    | true => (match s with
      | .nils => (match n with
        | 0 => .val .nils h
        | n + 1 => (match Nat.ble ((n + 1) * bytes) 100000000, firstA sz (n + 1) x h with
          | true, some new => appNew sz (n + 1) (trOf new) h
          | _, _ => .fail))
      | .sl b off len c => (match n with
        | 0 => .val (.sl b off len c) h
        | n + 1 => (match firstA sz (n + 1) x h with
          | none => .fail
          | some new => (match Nat.ble ((len + (n + 1)) * bytes) 100000000 with
            | false => .fail
            | true => (match c with
              | .ex cp => appEx sz b off len cp (len + (n + 1)) (.sl b off len c) new h
              | .op k => appOp sz b off len k (len + (n + 1)) new h))))
      | _ => .fail))
def appP (ts : List TypeId) (s x : Operand) : Cl := match ts with
  | [st, xt] => (match P.underlying st with
    | some (.slice e) => (match sizeT P e, P.info? e, zeroC P e with
      | some (sz + 1), some ie, some z => (match Nat.beq (lenF z) (sz + 1) && Nat.ble 1 ie.bytes with
        | true => (match P.underlying xt with
          | some (.int _) => bi s x (appZero (sz + 1) ie.bytes z)
          | some (.slice _) => bi s x (appD (sz + 1) ie.bytes)
          | some .string => bi s x (appD (sz + 1) ie.bytes)
          | _ => .none)
        | false => .none)
      | _, _, _ => .none)
    | _ => .none)
  | _ => .none

/-! ### Composites -/
def spliceF : Nat → List AV → List AV → Option (List AV)
  | _, [], z => some z
  | 0, v :: vs, _ :: z => (match spliceF 0 vs z with | some r => some (v :: r) | none => none)
  | n + 1, v :: vs, y :: z => (match spliceF n (v :: vs) z with | some r => some (y :: r) | none => none)
  | _, _ :: _, [] => none
/-- the parts, each at its place -/
def fillA : List (Nat × Nat) → List AV → List AV → Option (List AV)
  | [], [], z => some z
  | (off, s) :: ps, v :: vs, z => (match v.flat with
    | some l => (match Nat.beq (lenF l) s && Nat.ble (off + s) (lenF z) with
      | true => (match spliceF off l z with
        | some z => fillA ps vs z
        | none => none)
      | false => none)
    | none => none)
  | _, _, _ => none
/-- has each field's type a size? -/
def sizesOK : List Field → Bool
  | [] => true
  | f :: fs => (match sizeT P f.type with | some _ => true | none => false) && sizesOK fs
def placesS (fs : List Field) : List Nat → Option (List (Nat × Nat))
  | [] => some []
  | i :: is => (match nthF fs i with
    | none => none
    | some fd => match sizeT P fd.type with
      | none => none
      | some s => match placesS fs is with
        | none => none
        | some r => some ((fd.offset, s) :: r))
def placesA (sz : Nat) : List Nat → List (Nat × Nat)
  | [] => []
  | i :: is => (i * sz, sz) :: placesA sz is
def buildD (pl : List (Nat × Nat)) (z : List AV) (l : List AV) (h : AHeap) : R := match fillA pl l z with
  | some l => .val (.agg l) h
  | none => .fail
def buildP (t : TypeId) (ps : List (Nat × Operand)) : Cl := match zeroC P t with
  | none => .none
  | some z => (match P.underlying t with
    | some (.struct fs) => (match placesS P fs.toList (ps.map (·.1)), sizesOK P fs.toList with
      | some pl, true => many (rvs (ps.map (·.2))) (buildD pl z)
      | _, _ => .none)
    | some (.array _ e) => (match sizeT P e with
      | some sz => many (rvs (ps.map (·.2))) (buildD (placesA sz (ps.map (·.1))) z)
      | none => .none)
    | _ => .none)
def newSl (m : Nat) (cs : Q AV) (n : Nat) (h : AHeap) : R := .val (.sl h.next 0 n (.ex n)) (h.new (.cells m cs none))
def buildSliceD (pl : List (Nat × Nat)) (z : List AV) (m n : Nat) (l : List AV) (h : AHeap) : R := match fillA pl l z with
  | some l => newSl m (trOf l) n h
  | none => .fail
def buildSliceP (t : TypeId) (n : Nat) (ps : List (Nat × Operand)) : Cl := match P.underlying t with
  | some (.slice e) => (match sizeT P e, zeroC P e with
    | some (sz + 1), some z => (match Nat.beq (lenF z) (sz + 1) && Nat.blt (n * (sz + 1)) 10000 with
      | true => many (rvs (ps.map (·.2))) (buildSliceD (placesA (sz + 1) (ps.map (·.1))) (repF n z) (n * (sz + 1)) n)
      | false => .none)
    | _, _ => .none)
  | _ => .none
def makeSliceD (sz : Nat) (z : List AV) (l c : AV) (h : AHeap) : R := match l with
  | .int _ (.ofNat l) => (match c with
    | .int _ (.ofNat c) => (match Nat.ble l c && Nat.ble c 100000 with
      | true => .val (.sl h.next 0 l (.ex c)) (h.new (.cells (c * sz) (trOf (repF c z)) none))
      | false => .fail)
    | _ => .fail)
  | _ => .fail
def makeSliceP (t : TypeId) (l c : Operand) : Cl := match P.underlying t with
  | some (.slice e) => (match sizeT P e, zeroC P e, P.info? e with
    | some (sz + 1), some z, some ie => (match Nat.beq (lenF z) (sz + 1) && Nat.ble ie.bytes 1000 with
      | true => bi l c (makeSliceD (sz + 1) z)
      | false => .none)
    | _, _, _ => .none)
  | _ => .none

def minFrom (k : IntKind) (a : Int) : List AV → AHeap → R
  | [], h => .int k a h
  | .int _ b :: r, h => minFrom k (bif ltI b a then b else a) r h
  | _, _ => .fail
def minD (l : List AV) (h : AHeap) : R := match l with
  | .int k a :: r => minFrom k a r h
  | _ => .fail
def maxFrom (k : IntKind) (a : Int) : List AV → AHeap → R
  | [], h => .int k a h
  | .int _ b :: r, h => maxFrom k (bif ltI a b then b else a) r h
  | _, _ => .fail
def maxD (l : List AV) (h : AHeap) : R := match l with
  | .int k a :: r => maxFrom k a r h
  | _ => .fail

def hasBody (f : Nat) : Bool := match P.funcs[f]? with
  | some fn => fn.body.isSome && (fn.name != "runtime.NumGoroutine")
  | none => false

def assertD (d : TypeId) (ok : Bool) (z : Option AV) (x : AV) (h : AHeap) : R := match x with
  | .ifc t v => (match Nat.beq t d with
    | true => .val (bif ok then .tup [v, .bool true] else v) h
    | false => (match ok, z with | true, some z => .val (.tup [z, .bool false]) h | _, _ => .fail))
  | .nili => (match ok, z with | true, some z => .val (.tup [z, .bool false]) h | _, _ => .fail)
  | _ => .fail
def assertP (x : Operand) (d : TypeId) (ok : Bool) : Cl := match P.underlying d with
  | some (.interface _) => .none
  | some _ => un x (assertD d ok (zeroT P d))
  | none => .none

/-! ### Calls -/
def callK (deferred : Bool) (f : Nat) (args : List AV) (h : AHeap) : R := match hasBody P f with
  | true => (match deferred with | true => .defer f args h | false => .call f args h)
  | false => .fail
def callD (deferred : Bool) (l : List AV) (h : AHeap) : R := match l with
  | .fn f a b :: args => callK P deferred f (a ++ (args ++ b)) h
  | _ => .fail
def callP (deferred : Bool) (f : Operand) (args : List Operand) : Cl := match rv f with
  | .cst (.fn f [] []) => (match hasBody P f with
    | true => (match deferred with
      | true => many (rvs args) (fun l h => .defer f l h)
      | false => many (rvs args) (fun l h => .call f l h))
    | false => .none)
  | f => many (f :: rvs args) (callD P deferred)

def pickP (c a b : Operand) : Cl := .mk fun T h => match (rv c).get T with
  | some (.bool true) => .vl ((rv a).get T) h
  | some (.bool false) => .vl ((rv b).get T) h
  | _ => .fail
def notD (v : AV) (h : AHeap) : R := match v with
  | .bool true => .val (.bool false) h
  | .bool false => .val (.bool true) h
  | _ => .fail
def negD (v : AV) (h : AHeap) : R := match v with
  | .int k n => .wrap k (0 - n) h
  | _ => .fail
def nilD (v : AV) (h : AHeap) : R := match v with
  | .ptr b off => .val (.ptr b off) h
  | .fn f a b => .val (.fn f a b) h
  | _ => .fail
def extractD (i : Nat) (v : AV) (h : AHeap) : R := match v with
  | .tup vs => .vl (nthF vs i) h
  | _ => .fail
def panicD (v : AV) (h : AHeap) : R := match v with
  | .ifc t v => .panic (.ifc t v) h
  | _ => .fail
def movP (x : Operand) : Cl := un x (fun v h => .val v h)
def allocP (e : TypeId) : Cl := match zeroC P e with
  | some z => .mk fun _ h => newVarD (trOf z) (lenF z) h
  | none => .none
def fnP (f : Fn) (a b : List Operand) : Cl := match f with
  | .func f => .mk fun T h => (match RV.gets T (rvs a), RV.gets T (rvs b) with
    | some a, some b => .val (.fn f a b) h
    | _, _ => .fail)
  | _ => .none
def ifaceP (t : TypeId) (x : Operand) : Cl := match P.underlying t with
  | some (.interface _) => .none
  | some _ => un x (fun v h => .val (.ifc t v) h)
  | none => .none
def builtinP (b : Builtin) (ts : List TypeId) (args : List Operand) : Cl := match b with
  | .len => (match ts, args with | t :: _, [x] => lenP P t x | _, _ => .none)
  | .cap => (match ts, args with | t :: _, [x] => capP P t x | _, _ => .none)
  | .min => many (rvs args) minD
  | .max => many (rvs args) maxD
  | .append => (match args with | [s, x] => appP P ts s x | _ => .none)
  | .delete => (match ts, args with
    | t :: _, [m, k] => (match P.underlying t with
      | some (.map kt _) => (match keyT P kt with | some kk => bi m k (deleteD kk) | none => .none)
      | _ => .none)
    | _, _ => .none)
  | _ => .none

def prep (o : Op) : Cl :=
  match o with
  | .move x => movP x
  | .assign x => movP x
  | .pick c a b => pickP c a b
  | .alloc e => allocP P e
  | .box _ x => un x boxD
  | .build t ps => buildP P t ps.toList
  | .buildSlice t n ps => buildSliceP P t n ps.toList
  | .load t a => loadP P t a
  | .store t a x => storeP P t a x
  | .nilCheck x => un x nilD
  | .binOp op t x y _ => binP P op t x y
  | .unOp .not _ x => un x notD
  | .unOp .neg _ x => un x negD
  | .convert s d x => convP P s d x
  | .makeInterface t x => ifaceP P t x
  | .makeFunc f a b => fnP f a.toList b.toList
  | .makeMap _ none => .mk fun _ h => .val (.mp h.next) (h.new (.map []))
  | .makeSlice t l c => makeSliceP P t l c
  | .slice t x lo hi mx => sliceP P t x lo hi mx
  | .fieldAddr s x f => fieldAddrP P s x f
  | .field t x f => fieldP P t x f
  | .indexAddr t x i => indexAddrP P t x i
  | .index t x i => indexP P t x i
  | .lookup t m k ok => lookupP P t m k ok
  | .mapUpdate t m k v => mapUpdateP P t m k v
  | .typeAssert x _ d ok => assertP P x d ok
  | .extract x i => un x (extractD i)
  | .panic x => un x panicD
  | .call { callee := .value f, args, .. } => callP P false f args.toList
  | .call { callee := .builtin b, args, argTypes } => builtinP P b argTypes.toList args.toList
  | .defer { callee := .value f, args, .. } => callP P true f args.toList
  | _ => .none
end

/-! ### Regions, code -/
inductive CR where
  | fail
  | ret (v : AV) (h : AHeap)
  | panic (v : AV) (h : AHeap)
abbrev CallF := Nat → List AV → AHeap → CR
abbrev Defs := List (Nat × List AV)
inductive X where
  | fail
  | norm (t : Regs) (ds : Defs) (h : AHeap)
  | exit (id : Nat) (t : Regs) (ds : Defs) (h : AHeap)
  | ret (t : Regs) (ds : Defs) (h : AHeap)
  | panic (v : AV) (t : Regs) (ds : Defs) (h : AHeap)
abbrev CodeF := CallF → Regs → Defs → AHeap → X
inductive Ck where
  | none
  | mk (f : CodeF)

def undefA : AV := .tup []
inductive Dst where
  | no
  | at (b : Pt)
/-- n: how many temporaries there are -/
def dstOf (n : Nat) : Option Tmp → Option Dst
  | none => some .no
  | some t => (match Nat.blt t n with | true => some (.at (ptOf t)) | false => none)
def Dst.put (d : Dst) (v : AV) (t : Regs) : Regs := match d with
  | .no => t
  | .at b => Q.put (some v) t b
def next (d : Dst) (f : OpF) (k : CodeF) : CodeF := fun call t ds h => match f t h with
  | .fail => .fail
  | .val v h => k call (d.put v t) ds h
  | .skip h => k call (d.put undefA t) ds h
  | .call f args h => (match call f args h with
    | .fail => .fail
    | .ret v h => k call (d.put v t) ds h
    | .panic v h => .panic v t ds h)
  | .defer f args h => k call (d.put undefA t) ((f, args) :: ds) h
  | .panic v h => .panic v t ds h
/-- is it wanted? -/
def wantG (g : Option (Dst × Bool)) (t : Regs) : Option Bool := match g with
  | none => some true
  | some (.at b, want) => (match t.at b with
    | some (.bool b) => some (b == want)
    | some _ => some false
    | none => none)
  | some (.no, _) => none
def guarded (g : Option (Dst × Bool)) (d : Dst) (f : OpF) (k : CodeF) : CodeF := fun call t ds h => match wantG g t with
  | some true => next d f k call t ds h
  | some false => k call (d.put undefA t) ds h
  | none => .fail
/-- the guard of an operation: the register of the operation that it hangs on, and what is wanted -/
def guardOf (n : Nat) (all : List Oper) : Option (Nat × Bool) → Option (Option (Dst × Bool))
  | none => some none
  | some (j, want) => (match nthF all j with
    | some g => (match dstOf n g.dst with
      | some (.at b) => some (some (.at b, want))
      | _ => none)
    | none => none)
/-- operations in the order of a list; n: how many temporaries there are -/
def opsP (P : Program) (n : Nat) (all : List Oper) : List Oper → Ck
  | [] => .mk fun _ t ds h => .norm t ds h
  | o :: rest => match prep P o.op, opsP P n all rest, dstOf n o.dst, guardOf n all o.guard with
    | .mk f, .mk k, some d, some none => .mk (next d f k)
    | .mk f, .mk k, some d, some (some g) => .mk (guarded (some g) d f k)
    | _, _, _, _ => .none

/-! ### Regions that draw their order -/
mutual
def beqA : AV → AV → Bool
  | .bool a, .bool b => a == b
  | .int j a, .int k b => sameK j k && eqI a b
  | .str a, .str b => a.data.toList == b.data.toList
  | .nilp, .nilp => true
  | .ptr a i, .ptr b j => decide (a = b) && Nat.beq i j
  | .nils, .nils => true
  | .sl a i l (.ex c), .sl b j m (.ex d) => decide (a = b) && Nat.beq i j && Nat.beq l m && Nat.beq c d
  | .sl a i l (.op c), .sl b j m (.op d) => decide (a = b) && Nat.beq i j && Nat.beq l m && Nat.beq c d
  | .nilm, .nilm => true
  | .mp a, .mp b => decide (a = b)
  | .fn f a c, .fn g b d => Nat.beq f g && beqAs a b && beqAs c d
  | .nilf, .nilf => true
  | .ifc t v, .ifc u w => Nat.beq t u && beqA v w
  | .nili, .nili => true
  | .agg a, .agg b => beqAs a b
  | .tup a, .tup b => beqAs a b
  | _, _ => false
def beqAs : List AV → List AV → Bool
  | [], [] => true
  | a :: as, b :: bs => beqA a b && beqAs as bs
  | _, _ => false
end
inductive Kd where
  | read | alloc | eff
def kindOf : Op → Option Kd
  | .move _ | .assign _ | .pick .. | .build .. | .load .. | .nilCheck _ | .binOp .. | .unOp .. | .convert .. | .makeInterface ..
  | .makeFunc .. | .fieldAddr .. | .field .. | .indexAddr .. | .index .. | .lookup .. | .typeAssert .. | .extract .. => some .read
  | .alloc _ | .box .. | .buildSlice .. | .makeMap .. | .makeSlice .. | .slice .. => some .alloc
  | .store .. | .mapUpdate .. | .panic _ => some .eff
  | .call { callee := .value _, .. } => some .eff
  | .call { callee := .builtin .append, .. } => some .eff
  | .call { callee := .builtin .delete, .. } => some .eff
  | .call { callee := .builtin .len, .. } => some .read
  | .call { callee := .builtin .cap, .. } => some .read
  | .call { callee := .builtin .min, .. } => some .read
  | .call { callee := .builtin .max, .. } => some .read
  | _ => none
/-- an operation of a region that draws -/
structure It where
  dst : Dst
  g : Option (Dst × Bool)
  kd : Kd
  /-- how many effects are surely ahead of it -/
  lo : Nat
  /-- does all that stands behind it hang on it? -/
  last : Bool
  f : OpF
/-- the same value in all of some memories -/
def sameAll (f : OpF) (t : Regs) (v : AV) : List AHeap → Bool
  | [] => true
  | h :: hs => (match f t h with
    | .val w _ => beqA v w && sameAll f t v hs
    | _ => false)
/-- has a memory given as many numbers as another, at the least? -/
def grew (g g' : AHeap) : Bool := Nat.ble g.next.toNat g'.next.toNat
def takeL : Nat → List AHeap → List AHeap
  | 0, _ => []
  | _ + 1, [] => []
  | n + 1, h :: hs => h :: takeL n hs
/-- hs: the memories behind each effect, the last one first; j: how many effects there were; g: the last memory, with what was made since -/
def drawGo (call : CallF) (ds : Defs) : List It → Regs → (j : Nat) → (h : AHeap) → (hs : List AHeap) → (g : AHeap) → X
  | [], t, _, _, _, g => .norm t ds g
  | i :: is, t, j, h, hs, g => match wantG i.g t with
    | none => .fail
    | some false => (match i.kd with
      | .eff => drawGo call ds is (i.dst.put undefA t) (j + 1) g (h :: hs) g
      | _ => drawGo call ds is (i.dst.put undefA t) j h hs g)
    | some true => match i.kd with
      | .read => (match i.f t h with
        | .val v _ => (match sameAll i.f t v (takeL (j - i.lo) hs) with
          | true => drawGo call ds is (i.dst.put v t) j h hs g
          | false => .fail)
        | _ => .fail)
      | .alloc => (match i.f t g with
        | .val v g => drawGo call ds is (i.dst.put v t) j h hs g
        | _ => .fail)
      | .eff => (match i.f t g with
        | .val v g' => (match grew g g' with | true => drawGo call ds is (i.dst.put v t) (j + 1) g' (h :: hs) g' | false => .fail)
        | .skip g' => (match grew g g' with | true => drawGo call ds is (i.dst.put undefA t) (j + 1) g' (h :: hs) g' | false => .fail)
        | .call f args g1 => (match call f args g1 with
          | .ret v g' => (match grew g g' with | true => drawGo call ds is (i.dst.put v t) (j + 1) g' (h :: hs) g' | false => .fail)
          | .panic v g => (match i.last with | true => .panic v t ds g | false => .fail)
          | .fail => .fail)
        | .panic v g => (match i.last with | true => .panic v t ds g | false => .fail)
        | _ => .fail)

/-! the plan of a region that draws -/
def isEff (o : Oper) : Bool := match kindOf o.op with
  | some .eff => true
  | _ => false
def rangeF : Nat → Nat → List Nat
  | 0, _ => []
  | n + 1, i => i :: rangeF n (i + 1)
def tb (m i : Nat) : Bool := Nat.beq (Nat.land (Nat.shiftRight m i) 1) 1
def edgeMask (acc : List Nat) : List Edge → Nat
  | [] => 0
  | e :: es => match Region.binds .any e with
    | true => (match nthF acc e.on with
      | some m => Nat.lor (Nat.lor (Nat.pow 2 e.on) m) (edgeMask acc es)
      | none => edgeMask acc es)
    | false => edgeMask acc es
/-- which operations are surely ahead, a bit each -/
def ancsGo : List Oper → List Nat → List Nat
  | [], acc => acc
  | o :: os, acc => ancsGo os (acc ++ [edgeMask acc o.after.toList])
def ancs (ops : List Oper) : List Nat := ancsGo ops []
/-- the bits of a mask -/
def bitsOf (d : Nat) : Nat → Nat → List Nat
  | 0, _ => []
  | n + 1, i => match tb d i with | true => i :: bitsOf d n (i + 1) | false => bitsOf d n (i + 1)
def effMask : List Oper → Nat → Nat
  | [], _ => 0
  | o :: os, i => match isEff o with | true => Nat.lor (Nat.pow 2 i) (effMask os (i + 1)) | false => effMask os (i + 1)
def minusM (m p : Nat) : Nat := Nat.sub m (Nat.land m p)
def orderGo (n effm : Nat) (anc : List Nat) : List Nat → Nat → List Nat
  | [], placed => bitsOf (minusM (Nat.sub (Nat.pow 2 n) 1) placed) n 0
  | e :: es, placed => match nthF anc e with
    | none => []
    | some m => bitsOf (minusM m (Nat.lor placed effm)) n 0 ++ e :: orderGo n effm anc es (Nat.lor placed (Nat.lor (minusM m (Nat.lor placed effm)) (Nat.pow 2 e)))
def orderOf (ops : List Oper) : List Nat := orderGo (lenF ops) (effMask ops 0) (ancs ops) (bitsOf (effMask ops 0) (lenF ops) 0) 0
/-- may k be ahead of i or behind it, and nowhere else? -/
def ordered (anc : List Nat) (i k : Nat) : Bool :=
  (match nthF anc i with | some m => m.testBit k | none => false) || (match nthF anc k with | some m => m.testBit i | none => false)
/-- whatever another operation writes and this one looks at is ordered; no two write one temporary -/
def tmpsOK (ops : List Oper) (anc : List Nat) (i : Nat) (o : Oper) : Bool :=
  let seen := Oper.looksAt ⟨ops⟩ o
  (rangeF (lenF ops) 0).all fun k => Nat.beq k i || (match nthF ops k with
    | some ok => (match ok.dst with
      | some t => (match o.dst with | some u => !Nat.beq t u | none => true) && (!seen.contains t || ordered anc i k)
      | none => true)
    | none => true)
def noSelf (anc : List Nat) (i : Nat) : Bool := match nthF anc i with | some m => !m.testBit i | none => false
/-- the mask that an operation's edges make -/
def maskOf (anc : List Nat) : List Edge → Option Nat
  | [] => some 0
  | e :: es => match Region.binds .any e with
    | false => maskOf anc es
    | true => (match nthF anc e.on, maskOf anc es with
      | some m, some r => some ((2 ^ e.on ||| m) ||| r)
      | _, _ => none)
/-- how many effects are surely ahead, of those that stand ahead -/
def loOf (m : Nat) : List Nat → Nat
  | [] => 0
  | e :: es => match m.testBit e with | true => lenF es + 1 | false => loOf m es
def isMask (m : Nat) : Option Nat → Bool
  | some r => Nat.beq r m
  | none => false
/-- from an order to the plan: done: what stands ahead, a bit each; effs: the effects that stand ahead, the last one first -/
def planGo (P : Program) (n : Nat) (ops : List Oper) (anc : List Nat) : List Nat → (done : Nat) → (effs : List Nat) → Option (List It)
  | [], done, _ => match Nat.beq done (2 ^ lenF ops - 1) with | true => some [] | false => none
  | i :: is, done, effs => match nthF ops i, nthF anc i with
    | some o, some m => (match kindOf o.op, prep P o.op, dstOf n o.dst, guardOf n ops o.guard, planGo P n ops anc is (done ||| 2 ^ i) (bif isEff o then i :: effs else effs) with
      | some kd, .mk f, some d, some g, some r =>
        (match !done.testBit i && o.after.toList.all (fun e => !Region.binds .any e || done.testBit e.on) && tmpsOK ops anc i o
            && (!isEff o || Nat.beq (done ||| m) m) && isMask m (maskOf anc o.after.toList) with
        | true => some ({ dst := d, g, kd, f, lo := loOf m effs, last := is.all fun k => match nthF anc k with | some mk => mk.testBit i | none => false } :: r)
        | false => none)
      | _, _, _, _, _ => none)
    | _, _ => none
def drawP (P : Program) (n : Nat) (ops : List Oper) : Ck := match planGo P n ops (ancs ops) (orderOf ops) 0 [] with
  | some l => .mk fun call t ds h => drawGo call ds l t 0 h [] h
  | none => .none

section
variable (P : Program) (loops n : Nat)
def seqF (f g : CodeF) : CodeF := fun call t ds h => match f call t ds h with
  | .norm t ds h => g call t ds h
  | r => r
def condF (c : RV) (f g : CodeF) : CodeF := fun call t ds h => match c.get t with
  | some (.bool true) => f call t ds h
  | some (.bool false) => g call t ds h
  | _ => .fail
def blockF (id : Nat) (f : CodeF) : CodeF := fun call t ds h => match f call t ds h with
  | .exit i t ds h => (match Nat.beq i id with | true => .norm t ds h | false => .exit i t ds h)
  | r => r
def loopF (f : CodeF) : Nat → CodeF
  | 0 => fun _ _ _ _ => .fail
  | n + 1 => fun call t ds h => match f call t ds h with
    | .norm t ds h => loopF f n call t ds h
    | r => r
def codeP : Code → Ck
  | .skip => .mk fun _ t ds h => .norm t ds h
  | .label _ => .mk fun _ t ds h => .norm t ds h
  | .region _ ops draw => (match draw with | true => drawP P n ops.toList | false => opsP P n ops.toList ops.toList)
  | .seq a b => (match codeP a, codeP b with | .mk f, .mk g => .mk (seqF f g) | _, _ => .none)
  | .cond c a b => (match codeP a, codeP b with | .mk f, .mk g => (match rv c with | .bad => .none | .reg b => .mk (condF (.reg b) f g) | .cst v => .mk (condF (.cst v) f g)) | _, _ => .none)
  | .block id c => (match codeP c with | .mk f => .mk (blockF id f) | .none => .none)
  | .loop c => (match codeP c with | .mk f => .mk (loopF f loops) | .none => .none)
  | .scope c => codeP c
  | .exit id => .mk fun _ t ds h => .exit id t ds h
  | .ret => .mk fun _ t ds h => .ret t ds h
  | _ => .none
end

/-! ### Functions -/
section
variable (P : Program)
inductive RC where
  | tmp (b : Pt)
  | cell1 (b : Pt)
  | cellN (b : Pt) (n : Nat)
def rcOf : ResultVar → Option RC
  | .tmp t => some (.tmp (ptOf t))
  | .cell a t => (match aggT P t, sizeT P t with
    | some true, some n => some (.cellN (ptOf a) n)
    | some false, some _ => some (.cell1 (ptOf a))
    | _, _ => none)
def rcs : List ResultVar → Option (List RC)
  | [] => some []
  | r :: rs => (match rcOf P r, rcs rs with | some c, some cs => some (c :: cs) | _, _ => none)
def valOf : R → Option AV
  | .val v _ => some v
  | _ => none
def RC.get (T : Regs) (h : AHeap) : RC → Option AV
  | .tmp b => T.at b
  | .cell1 b => (match T.at b with | some a => valOf (load1 a h) | none => none)
  | .cellN b n => (match T.at b with | some a => valOf (loadN n a h) | none => none)
def RC.gets (T : Regs) (h : AHeap) : List RC → Option (List AV)
  | [] => some []
  | r :: rs => (match r.get T h with
    | none => none
    | some v => match RC.gets T h rs with
      | none => none
      | some vs => some (v :: vs))
def retD (rs : List RC) (t : Regs) (h : AHeap) : CR := match rs with
  | [r] => (match r.get t h with | some v => .ret v h | none => .fail)
  | rs => (match RC.gets t h rs with | some vs => .ret (.tup vs) h | none => .fail)

/-- the first operation of a body, if that is recover alone -/
def peel : Code → Option (Option Tmp × Code)
  | .seq (.region _ ⟨[{ dst, op := .call { callee := .builtin .recover, .. }, guard := none, .. }]⟩ false) b => some (dst, b)
  | .seq a b => match peel a with
    | some (d, c) => some (d, .seq c b)
    | none => none
  | _ => none

/-- a function, made ready -/
inductive Fk where
  | none
  | mk (f : CodeF) (rs : List RC)
def funP (loops : Nat) (f : Nat) : Fk := match P.funcs[f]? with
  | none => .none
  | some fn => (match fn.body with
    | none => .none
    | some c => (match codeP P loops fn.ntmps c, rcs P fn.results.toList with
      | .mk g, some rs => .mk g rs
      | _, _ => .none))
inductive Dk where
  | none
  | mk (d : Dst) (f : CodeF)
def defP (loops : Nat) (f : Nat) : Dk := match P.funcs[f]? with
  | none => .none
  | some fn => (match fn.body with
    | none => .none
    | some c => (match fn.results.toList with
      | [] => (match peel c with
        | none => .none
        | some (d, c) => (match codeP P loops fn.ntmps c, dstOf fn.ntmps d with
          | .mk g, some d => .mk d g
          | _, _ => .none))
      | _ :: _ => .none))
def argsT (l : List AV) : Regs := trOf l

variable (hook : Nat → Option (List AV → AHeap → CR)) (loops : Nat)
def deferA (call : CallF) (rs : List RC) (t : Regs) (g : Nat) (ga : List AV) (p : AV) (h : AHeap) : CR :=
  match defP P loops g with
  | .none => .fail
  | .mk d f => (match f call (d.put p (argsT ga)) [] h with
    | .norm _ [] h => retD rs t h
    | .ret _ [] h => retD rs t h
    | _ => .fail)
def leave (call : CallF) (rs : List RC) (t : Regs) (ds : Defs) (h : AHeap) : CR := match ds with
  | [] => retD rs t h
  | [(g, ga)] => deferA P loops call rs t g ga .nili h
  | _ => .fail
def leaveP (call : CallF) (rs : List RC) (v : AV) (t : Regs) (ds : Defs) (h : AHeap) : CR := match ds with
  | [] => .panic v h
  | [(g, ga)] => deferA P loops call rs t g ga v h
  | _ => .fail
def endF (call : CallF) (rs : List RC) : X → CR
  | .norm t ds h => leave P loops call rs t ds h
  | .ret t ds h => leave P loops call rs t ds h
  | .panic v t ds h => leaveP P loops call rs v t ds h
  | _ => .fail
def callA : Nat → CallF
  | 0 => fun _ _ _ => .fail
  | n + 1 => fun f args h => match hook f with
    | some k => k args h
    | none => (match funP P loops f with
      | .none => .fail
      | .mk g rs => endF P loops (callA n) rs (g (callA n) (argsT args) [] h))
end
end Go.Eng
