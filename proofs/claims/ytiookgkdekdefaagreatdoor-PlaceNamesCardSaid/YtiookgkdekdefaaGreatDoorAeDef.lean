/-
  An evaluator of loaded programs over memory that is known in part ('abstract' memory: blocks by numbers of their own, capacities not known, choices kept as a tree). Definitions alone; AeSound.lean shows that what it answers the model's machine answers.
-/
import GoSem.Step
import Derived.Still
namespace Go.AE
noncomputable section

/-! A trie keyed by numbers. -/
inductive T (α : Type) where
  | nil
  | node (l : T α) (v : Option α) (r : T α)
  deriving Inhabited

/-- A way down a trie. -/
inductive Pth where
  | e
  | l (p : Pth)
  | r (p : Pth)
/-- The way to a number's place. -/
def pathF : Nat → Nat → Pth
  | 0, _ => .e
  | f + 1, n => bif Nat.beq n 0 then .e else bif Nat.beq (Nat.mod n 2) 1 then .l (pathF f (Nat.div n 2)) else .r (pathF f (Nat.sub (Nat.div n 2) 1))
def path (n : Nat) : Pth := pathF n n

namespace T
variable {α : Type}
def left (t : T α) : T α := T.rec (motive := fun _ => T α) .nil (fun l _ _ _ _ => l) t
def right (t : T α) : T α := T.rec (motive := fun _ => T α) .nil (fun _ _ r _ _ => r) t
def top (t : T α) : Option α := T.rec (motive := fun _ => Option α) none (fun _ v _ _ _ => v) t
def getP (p : Pth) : T α → Option α := Pth.rec (motive := fun _ => T α → Option α) (fun t => top t) (fun _ ih t => ih (left t)) (fun _ ih t => ih (right t)) p
def setP (p : Pth) : T α → Option α → T α :=
  Pth.rec (motive := fun _ => T α → Option α → T α)
    (fun t v => T.rec (motive := fun _ => T α) (.node .nil v .nil) (fun l _ r _ _ => .node l v r) t)
    (fun _ ih t v => T.rec (motive := fun _ => T α) (.node (ih .nil v) none .nil) (fun l u r _ _ => .node (ih l v) u r) t)
    (fun _ ih t v => T.rec (motive := fun _ => T α) (.node .nil none (ih .nil v)) (fun l u r _ _ => .node l u (ih r v)) t) p
def get (t : T α) : Nat → Option α :=
  T.rec (motive := fun _ => Nat → Option α) (fun _ => none) (fun _ v _ ihl ihr n => cond (Nat.beq n 0) v (cond (Nat.beq (Nat.mod n 2) 1) (ihl (Nat.div n 2)) (ihr (Nat.sub (Nat.div n 2) 1)))) t
def setF (f : Nat) : T α → Nat → Option α → T α :=
  Nat.rec (motive := fun _ => T α → Nat → Option α → T α) (fun t _ v => T.rec (motive := fun _ => T α) (.node .nil v .nil) (fun l _ r _ _ => .node l v r) t)
    (fun _ ih t n v => cond (Nat.beq n 0)
      (T.rec (motive := fun _ => T α) (.node .nil v .nil) (fun l _ r _ _ => .node l v r) t)
      (cond (Nat.beq (Nat.mod n 2) 1)
        (T.rec (motive := fun _ => T α) (.node (ih .nil (Nat.div n 2) v) none .nil) (fun l u r _ _ => .node (ih l (Nat.div n 2) v) u r) t)
        (T.rec (motive := fun _ => T α) (.node .nil none (ih .nil (Nat.sub (Nat.div n 2) 1) v)) (fun l u r _ _ => .node l u (ih r (Nat.sub (Nat.div n 2) 1) v)) t))) f
def set (t : T α) (n : Nat) (v : α) : T α := setF n t n (some v)
def del (t : T α) (n : Nat) : T α := setF n t n none
end T

def nth {α : Type} (l : List α) : Nat → Option α :=
  List.rec (motive := fun _ => Nat → Option α) (fun _ => none) (fun a _ ih n => Nat.rec (motive := fun _ => Option α) (some a) (fun m _ => ih m) n) l

/-- A piece of a list, if it is there whole. -/
def seg (vs : List Value) (off n : Nat) : Option (List Value) :=
  let r := (vs.drop off).take n
  bif Nat.beq r.length n then some r else none
/-- The list with a piece written over. -/
def setSeg : List Value → Nat → List Value → List Value
  | [], _, _ => []
  | v :: vs, n + 1, new => v :: setSeg vs n new
  | v :: vs, 0, [] => v :: vs
  | _ :: vs, 0, x :: new => x :: setSeg vs 0 new

/-- What is open: a tree of choices. -/
inductive Tr (α : Type) where
  | fail
  | done (a : α)
  | ask (n : Nat) (k : Nat → Tr α)
  deriving Inhabited
namespace Tr
variable {α β : Type}
def bind (t : Tr α) (f : α → Tr β) : Tr β := Tr.rec (motive := fun _ => Tr β) .fail (fun a => f a) (fun n _ ih => .ask n ih) t
def of : Option α → Tr α
  | some a => .done a
  | none => .fail
/-- Every leaf is so, none fails. -/
def all (p : α → Bool) : Tr α → Bool
  | .fail => false
  | .done a => p a
  | .ask n k => !Nat.beq n 0 && (List.range n).all fun i => (k i).all p
def first : Tr α → Option α
  | .fail => none
  | .done a => some a
  | .ask _ k => (k 0).first
end Tr

/-- Plain values without an address. -/
def flat : Value → Bool
  | .bool _ | .int .. | .float .. | .complex .. | .string _ | .pointer none | .slice none 0 0 | .map none | .chan none | .nilFunc | .nilIface => true
  | _ => false
def flat1 : Value → Bool
  | .agg cs | .tuple cs => cs.toList.all flat
  | .iface _ v => flat v
  | v => flat v

inductive AO where
  | cells (vs : List Value) (esz : Nat) (ro : Bool)
  | map (es : List MapEntry) (clock : Nat)
  | mapIter (m : Option Nat) (since : Nat) (seen : List Nat) (stepped : Nat)
  | loop (st : LoopState) (pending : Option Code) (fn : FuncId) (env : T Value) (params : List Tmp) (assign body : Code) (defers : Nat)
  | deferred
  | stringIter (s : ByteArray) (pos : Nat)
  deriving Inhabited
def AO.ro : AO → Bool
  | .cells _ _ ro => ro
  | _ => false

structure S where
  H : T AO
  next : Nat
  log : List Nat
  deriving Inhabited

/-- A new object. -/
def S.new (S : S) (o : AO) : AE.S := match S with | ⟨H, n, l⟩ => ⟨H.set n o, Nat.succ n, l⟩
/-- An object's new content. -/
def S.upd (S : S) (id : Nat) (o : AO) : AE.S := match S with | ⟨H, n, l⟩ => ⟨H.set id o, n, id :: l⟩
/-- An object goes, another comes. -/
def S.move (S : S) (id : Nat) (o : AO) : AE.S := match S with | ⟨H, n, l⟩ => ⟨(H.del id).set n o, Nat.succ n, id :: l⟩

/-- What a tree of steps comes to that asks the program alone. -/
def sval {α : Type} (P : Program) : Sem α → Option α
  | .pure a => some a
  | .program k => sval P (k P)
  | .mark _ k => sval P k
  | _ => none

/-- The same of a plain value. -/
def svalF (P : Program) (x : Sem Value) : Option Value := match sval P x with | some v => bif flat v then some v else none | none => none

/-- An operand, made ready. -/
structure Opd where
  run : T Value → Option Value
def opd (P : Program) : Operand → Opd
  | .tmp t => let p := path t; ⟨fun E => E.getP p⟩
  | .const v => bif flat1 v then ⟨fun _ => some v⟩ else ⟨fun _ => none⟩
  | .global g => bif Nat.blt g P.globals.size then ⟨fun _ => some (.pointer (some ⟨g, 0, none⟩))⟩ else ⟨fun _ => none⟩
  | .func f => ⟨fun _ => some (.func (.func f) #[] #[])⟩
structure Opds where
  run : T Value → Option (List Value)
def opds (P : Program) : List Operand → Opds
  | [] => ⟨fun _ => some []⟩
  | x :: l => ⟨fun E => match (opd P x).run E with
    | some v => match (opds P l).run E with
      | some vs => some (v :: vs)
      | none => none
    | none => none⟩
structure Parts where
  run : T Value → Option (List (Nat × Value))
def partsOf (P : Program) : List (Nat × Operand) → Parts
  | [] => ⟨fun _ => some []⟩
  | (i, x) :: l => ⟨fun E => match (opd P x).run E with
    | some v => match (partsOf P l).run E with
      | some vs => some ((i, v) :: vs)
      | none => none
    | none => none⟩

def isAgg (P : Program) (t : TypeId) : Option Bool :=
  match P.underlying t with
  | some (.struct _) | some (.array _ _) => some true
  | some _ => some false
  | none => none
def size (P : Program) (t : TypeId) : Option Nat := match P.info? t with | some i => some i.size | none => none
def zeroI (i : TypeInfo) : Option Value := match i.zero with | some z => bif flat1 z then some z else none | none => none
def zero (P : Program) (t : TypeId) : Option Value := match P.info? t with | some i => zeroI i | none => none

/-- A cell that may be stored. -/
def one : Value → Bool
  | .agg _ | .tuple _ => false
  | _ => true

def cellsAt (S : S) (id : Nat) : Option (List Value × Nat × Bool) :=
  match S.H.get id with
  | some (.cells vs e ro) => some (vs, e, ro)
  | _ => none

/-- A type's shape in memory: one cell, or so many. -/
inductive Shape where
  | one
  | many (n : Nat)
  | none
def shapeOf (P : Program) (t : TypeId) : Shape :=
  match isAgg P t with
  | some true => match size P t with | some n => .many n | none => .none
  | some false => .one
  | none => .none

def loadAt (sh : Shape) (a : Addr) (S : S) : Option Value :=
  match a.spot with
  | some _ => none
  | none => match S.H.get a.block with
    | some (.cells vs _ _) => match sh with
      | .one => nth vs a.off
      | .many n => match seg vs a.off n with | some l => some (.agg ⟨l⟩) | none => none
      | .none => none
    | _ => none

def storeCells (a : Addr) (l : List Value) (S : S) : Option AE.S :=
  match a.spot with
  | some _ => none
  | none => match S.H.get a.block with
    | some (.cells vs e false) => bif Nat.ble (a.off + l.length) vs.length then
        bif l.all one then some (S.upd a.block (.cells (setSeg vs a.off l) e false)) else none
      else none
    | _ => none

def storeAt (n : Nat) (a : Addr) (v : Value) (S : S) : Option AE.S :=
  let l := v.cells.toList
  bif Nat.beq l.length n then storeCells a l S else none

def partAt (sh : Shape) (cs : List Value) (off : Nat) : Option Value :=
  match sh with
  | .one => nth cs off
  | .many n => match seg cs off n with | some l => some (.agg ⟨l⟩) | none => none
  | .none => none

/-- How many cells a slice's first n elements have, read. -/
def firstCells (size n : Nat) (x : Value) (S : S) : Option (List Value) :=
  match x with
  | .slice (some a) _ _ =>
    bif Nat.beq (n * size) 0 then some [] else
    match a.spot with
    | some _ => none
    | none => match S.H.get a.block with
      | some (.cells vs _ _) => seg vs a.off (n * size)
      | _ => none
  | .slice none _ _ => some []
  | .string s => some ((s.data.toList.take n).map fun b => .int .u8 b.toNat)
  | _ => none
def lenOf : Value → Option Nat
  | .slice _ n _ => some n
  | .string s => some s.size
  | _ => none

def fillL (place : Nat → Option (Nat × Nat)) (cells : List Value) : List (Nat × Value) → Option (List Value)
  | [] => some cells
  | (i, v) :: rest =>
    match place i with
    | none => none
    | some (off, sz) =>
      let l := v.cells.toList
      bif Nat.beq l.length sz && Nat.ble (off + l.length) cells.length then fillL place (setSeg cells off l) rest else none

/-- The places of a struct's fields. -/
def placesOf (P : Program) : List Field → Option (List (Nat × Nat))
  | [] => some []
  | f :: l => match size P f.type with
    | some n => match placesOf P l with
      | some r => some ((f.offset, n) :: r)
      | none => none
    | none => none

def rep (z : List Value) : Nat → List Value
  | 0 => []
  | n + 1 => z ++ rep z n

def bound : Nat := 2 ^ 40

def toNat? : Value → Option Nat
  | .int _ (.ofNat n) => some n
  | _ => none

/-- append, of an element type that is known. -/
def append (sz bytes : Nat) (s x : Value) (S : S) : Option (Value × AE.S) :=
  match s with
  | .slice base sLen sCap =>
    match lenOf x with
    | none => none
    | some n =>
    match firstCells sz n x S with
    | none => none
    | some new =>
      let need := sLen + n
      bif !(Nat.beq new.length (n * sz) && new.all one) then none else
      bif Nat.ble need sCap then
        match new with
        | [] => some (.slice base need sCap, S)
        | _ :: _ => match base with
        | none => none
        | some a => match storeCells ⟨a.block, a.off + sLen * sz, a.spot⟩ new S with
          | some S => some (.slice base need sCap, S)
          | none => none
      else bif Nat.ble (need * (bytes + 1)) bound then
        match base with
        | none => some (.slice (some ⟨S.next, 0, none⟩) need need, S.new (.cells new sz false))
        | some a => match a.spot with
          | some _ => none
          | none => match S.H.get a.block with
            | some (.cells vs e false) => bif Nat.beq e sz then
                match seg vs a.off (sLen * sz) with
                | some old => some (.slice (some ⟨S.next, 0, none⟩) need need, S.move a.block (.cells (old ++ new) sz false))
                | none => none
              else none
            | _ => none
      else none
  | _ => none

/-- The bounds of a slice expression. -/
def bnd (lo hi : Option Value) (len cap : Nat) : Option (Nat × Nat) :=
  match (match hi with | none => some len | some v => toNat? v), (match lo with | none => some 0 | some v => toNat? v) with
  | some h, some l => bif Nat.ble h cap && Nat.ble l h then some (l, h) else none
  | _, _ => none

inductive SlK where
  | string
  | slice (sz : Nat)
  | array (n sz : Nat)
  | none
def slK (P : Program) (t : TypeId) : SlK :=
  match P.underlying t with
  | some .string => .string
  | some (.slice e) => match size P e with | some sz => .slice sz | none => .none
  | some (.array n e) => match size P e with | some sz => .array n sz | none => .none
  | _ => .none

def sliceExpr (k : SlK) (x : Value) (lo hi : Option Value) (S : S) : Option Value :=
  match k, x with
  | .string, .string s => match bnd lo hi s.size s.size with
    | some (l, h) => some (.string (s.extract l h))
    | none => none
  | .slice _, .slice none len cap => match bnd lo hi len cap with
    | some (l, h) => some (.slice none (h - l) (cap - l))
    | none => none
  | .slice sz, .slice (some a) len cap => match S.H.get a.block with
    | some (.cells _ e _) => bif Nat.beq e sz then
        match bnd lo hi len cap with
        | some (l, h) => some (.slice (some ⟨a.block, a.off + l * sz, a.spot⟩) (h - l) (cap - l))
        | none => none
      else none
    | _ => none
  | .array n sz, .pointer (some a) => match S.H.get a.block with
    | some (.cells vs e _) => bif Nat.beq e sz && Nat.ble (a.off + n * sz) vs.length then
        match bnd lo hi n n with
        | some (l, h) => some (.slice (some ⟨a.block, a.off + l * sz, a.spot⟩) (h - l) (n - l))
        | none => none
      else none
    | _ => none
  | _, _ => none

/-- The size of the elements of a variable that is an array. -/
def eszOf (P : Program) (t : TypeId) : Nat :=
  match P.underlying t with
  | some (.array _ e) => match size P e with | some n => n | none => 0
  | _ => 0

def indexAddr (k : SlK) (x i : Value) : Option Value :=
  match toNat? i with
  | none => none
  | some n => match k, x with
    | .slice sz, .slice (some a) len _ => bif Nat.blt n len then some (.pointer (some ⟨a.block, a.off + n * sz, a.spot⟩)) else none
    | .array len sz, .pointer (some a) => bif Nat.blt n len then some (.pointer (some ⟨a.block, a.off + n * sz, a.spot⟩)) else none
    | _, _ => none

inductive IxK where
  | string
  | array (n sz : Nat) (sh : Shape)
  | none
def ixK (P : Program) (t : TypeId) : IxK :=
  match P.underlying t with
  | some .string => .string
  | some (.array n e) => match size P e with | some sz => .array n sz (shapeOf P e) | none => .none
  | _ => .none
def index (k : IxK) (x i : Value) : Option Value :=
  match toNat? i with
  | none => none
  | some n => match k, x with
    | .array len sz sh, .agg cs => bif Nat.blt n len then partAt sh cs.toList (n * sz) else none
    | .string, .string s => match nth s.data.toList n with | some b => some (.int .u8 b.toNat) | none => none
    | _, _ => none

/-- '==' and '!=' with a nil on one side. -/
def nilEq (d : Option TypeDesc) (xc yc : Bool) (x y : Value) : Option Bool :=
  match d, x, y with
  | some (.pointer _), .pointer none, .pointer b => some b.isNone
  | some (.pointer _), .pointer _, .pointer none => some false
  | some (.slice _), .slice none _ _, .slice b _ _ => some b.isNone
  | some (.slice _), .slice _ _ _, .slice none _ _ => some false
  | some (.map _ _), .map none, .map b => some b.isNone
  | some (.map _ _), .map _, .map none => some false
  | some (.func _ _ _), .nilFunc, .nilFunc => some true
  | some (.func _ _ _), .nilFunc, .func _ _ _ => some false
  | some (.func _ _ _), .func _ _ _, .nilFunc => some false
  | some (.interface _), .nilIface, .nilIface => bif xc || yc then some true else none
  | some (.interface _), .nilIface, .iface _ _ => some false
  | some (.interface _), .iface _ _, .nilIface => some false
  | _, _, _ => none
def isConst : Operand → Bool
  | .const _ => true
  | _ => false

/-! Numbers, told so that the kernel is quick at them. -/
def inI64 : Int → Bool
  | .ofNat m => Nat.blt m 9223372036854775808
  | .negSucc m => Nat.blt m 9223372036854775808
def inU64 : Int → Bool
  | .ofNat m => Nat.blt m 18446744073709551616
  | .negSucc _ => false
def wrapF (k : IntKind) (n : Int) : Int :=
  match k with
  | .i64 => bif inI64 n then n else IntKind.wrap .i64 n
  | .u64 => bif inU64 n then n else IntKind.wrap .u64 n
  | k => k.wrap n
def ltI : Int → Int → Bool
  | .ofNat a, .ofNat b => Nat.blt a b
  | .negSucc _, .ofNat _ => true
  | .ofNat _, .negSucc _ => false
  | .negSucc a, .negSucc b => Nat.blt b a
def eqI : Int → Int → Bool
  | .ofNat a, .ofNat b => Nat.beq a b
  | .negSucc a, .negSucc b => Nat.beq a b
  | _, _ => false
def eqK : IntKind → IntKind → Bool
  | .i8, .i8 | .i16, .i16 | .i32, .i32 | .i64, .i64 | .u8, .u8 | .u16, .u16 | .u32, .u32 | .u64, .u64 => true
  | _, _ => false

structure Bin where
  run : Value → Value → Option Value
/-- An operator on two numbers of one kind. -/
def intBin : BinOp → IntKind → Int → Int → Option Value
  | .add => fun k a b => some (.int k (wrapF k (a + b)))
  | .sub => fun k a b => some (.int k (wrapF k (a - b)))
  | .mul => fun k a b => some (.int k (wrapF k (a * b)))
  | .eql => fun _ a b => some (.bool (eqI a b))
  | .neq => fun _ a b => some (.bool (!eqI a b))
  | .lss => fun _ a b => some (.bool (ltI a b))
  | .leq => fun _ a b => some (.bool (!ltI b a))
  | .gtr => fun _ a b => some (.bool (ltI b a))
  | .geq => fun _ a b => some (.bool (!ltI a b))
  | _ => fun _ _ _ => none
def plainV : Value → Bool
  | .int .. | .bool _ | .string _ | .float .. => true
  | _ => false
def slowBin (P : Program) (op : BinOp) (t : TypeId) (x y : Operand) (d : Option TypeDesc) (xc yc : Bool) (a b : Value) : Option Value :=
  bif plainV a && plainV b then svalF P (do eqGuard op t x y a b; binOp op t a b) else
    match op with
    | .eql => match nilEq d xc yc a b with | some r => some (.bool r) | none => none
    | .neq => match nilEq d xc yc a b with | some r => some (.bool !r) | none => none
    | _ => none
def binary (P : Program) (op : BinOp) (t : TypeId) (x y : Operand) : Bin :=
  let f := intBin op
  let d := P.underlying t
  let xc := isConst x
  let yc := isConst y
  ⟨fun a b => match a with
    | .int k n => match b with
      | .int k' m => bif eqK k k' then match f k n m with | some v => some v | none => slowBin P op t x y d xc yc a b else slowBin P op t x y d xc yc a b
      | _ => slowBin P op t x y d xc yc a b
    | _ => slowBin P op t x y d xc yc a b⟩

structure KeyK where
  run : Value → List MapEntry → Option (Option (Nat × Value))
def keyK (P : Program) (keyType : TypeId) : KeyK :=
  match P.underlying keyType with
  | some (.int q) => ⟨fun k es => match k with | .int .. => Instr.findNow (.int q) k es 0 | _ => none⟩
  | some .string => ⟨fun k es => match k with | .string _ => Instr.findNow .string k es 0 | _ => none⟩
  | some .bool => ⟨fun k es => match k with | .bool _ => Instr.findNow .bool k es 0 | _ => none⟩
  | _ => ⟨fun _ _ => none⟩

def mapOf (x : Value) (S : S) : Option (List MapEntry) :=
  match x with
  | .map none => some []
  | .map (some r) => match S.H.get r with | some (.map es _) => some es | _ => none
  | _ => none

def lookup (K : KeyK) (z : Option Value) (x k : Value) (ok : Bool) (S : S) : Option Value :=
  match mapOf x S with
  | none => none
  | some es => match K.run k es with
    | none => none
    | some (some (_, v)) => some (bif ok then .tuple #[v, .bool true] else v)
    | some none => match z with
      | some v => some (bif ok then .tuple #[v, .bool false] else v)
      | none => none

def setEntry : List MapEntry → Nat → Value → Value → List MapEntry
  | [], _, _, _ => []
  | e :: es, 0, k, v => ⟨k, v, e.born⟩ :: es
  | e :: es, n + 1, k, v => e :: setEntry es n k v

def mapUpdate (K : KeyK) (m k v : Value) (S : S) : Option AE.S :=
  match m with
  | .map (some r) =>
    match S.H.get r with
    | some (.map es clock) =>
      match K.run k es with
      | none => none
      | some (some (i, _)) => some (S.upd r (.map (setEntry es i k v) clock))
      | some none => some (S.upd r (.map (es ++ [⟨k, v, clock⟩]) (clock + 1)))
    | _ => none
  | _ => none

def range (d : Option TypeDesc) (x : Value) (S : S) : Option (Value × AE.S) :=
  match d, x with
  | some .string, .string s => some (.pointer (some ⟨S.next, 0, none⟩), S.new (.stringIter s 0))
  | some (.map _ _), .map none => some (.pointer (some ⟨S.next, 0, none⟩), S.new (.mapIter none 0 [] 0))
  | some (.map _ _), .map (some r) =>
    match S.H.get r with
    | some (.map _ clock) => some (.pointer (some ⟨S.next, 0, none⟩), S.new (.mapIter (some r) clock [] clock))
    | _ => none
  | _, _ => none

def step1 (r m since : Nat) (seen : List Nat) (clock : Nat) (S : S) (e : MapEntry) : Value × AE.S :=
  (.tuple #[.bool true, e.key, e.val], S.upd r (.mapIter (some m) since (seen ++ [e.born]) clock))

/-- A step of an iterator, while nothing is put into the map. -/
def next (it : Value) (isString : Bool) (S : S) : Tr (Value × AE.S) :=
  match it, isString with
  | .pointer (some ⟨r, 0, none⟩), true =>
    match S.H.get r with
    | some (.stringIter s pos) =>
      bif Nat.blt pos s.size then
        .done (.tuple #[.bool true, goInt pos, .int .i32 (Utf8.decode s pos).1], S.upd r (.stringIter s (pos + (Utf8.decode s pos).2)))
      else .done (.tuple #[.bool false], S)
    | _ => .fail
  | .pointer (some ⟨r, 0, none⟩), false =>
    match S.H.get r with
    | some (.mapIter none _ _ _) => .done (.tuple #[.bool false], S)
    | some (.mapIter (some m) since seen last) =>
      match S.H.get m with
      | some (.map es clock) =>
        bif !seen.isEmpty && !es.isEmpty && es.all (fun e => Nat.ble last e.born) then .fail else
        let left := es.filter fun e => !seen.contains e.born
        bif left.all (fun e => Nat.blt e.born since) then
          match left with
          | [] => .done (.tuple #[.bool false], S)
          | [e] => .done (step1 r m since seen clock S e)
          | l => .ask l.length fun i => match nth l i with | some e => .done (step1 r m since seen clock S e) | none => .fail
        else .fail
      | _ => .fail
    | _ => .fail
  | _, _ => .fail

/-- The entry at which a map's iterator stands. -/
def entry (it : Value) (S : S) : Option Value :=
  match it with
  | .pointer (some ⟨r, 0, none⟩) =>
    match S.H.get r with
    | some (.mapIter (some m) _ seen stepped) =>
      match seen.getLast? with
      | none => none
      | some stamp =>
      match S.H.get m with
      | some (.map es clock) => bif Nat.beq clock stepped then
          match es.find? fun e => Nat.beq e.born stamp with
          | some e => some (.tuple #[e.key, e.val])
          | none => none
        else none
      | _ => none
    | _ => none
  | _ => none

inductive AsK where
  | iface (want : Array (String × TypeId))
  | plain (t : TypeId)
  | none
def asK (P : Program) (t : TypeId) : AsK :=
  match P.underlying t with
  | some (.interface w) => .iface w
  | some _ => .plain t
  | none => .none
structure Meths where
  l : List (Array Method)
/-- Has a type all the methods? -/
def hasAll (P : Program) (want : Array (String × TypeId)) (t : TypeId) : Option Bool :=
  match P.info? t with
  | some i => some (Instr.missingMethod want i.methods).isNone
  | none => none
def typeAssert (P : Program) (k : AsK) (z : Option Value) (x : Value) (commaOk : Bool) : Option Value :=
  let holds (v : Value) : Option Value := some (bif commaOk then .tuple #[v, .bool true] else v)
  let fails : Option Value := bif commaOk then match z with | some z => some (.tuple #[z, .bool false]) | none => none else none
  match k, x with
  | .iface _, .nilIface => fails
  | .iface want, .iface t _ => match hasAll P want t with | some true => holds x | some false => fails | none => none
  | .plain _, .nilIface => fails
  | .plain a, .iface t v => bif Nat.beq t a then holds v else fails
  | _, _ => none

def makeSlice (info : Option TypeInfo) (l c : Value) (S : S) : Option (Value × AE.S) :=
  match info with
  | some info => match toNat? l, toNat? c, zeroI info with
    | some l, some c, some z =>
      bif Nat.ble l c && Nat.ble (c * (info.bytes + info.size + 1)) bound && Nat.blt 0 info.size && Nat.beq z.cells.toList.length info.size then
        some (.slice (some ⟨S.next, 0, none⟩) l c, S.new (.cells (rep z.cells.toList c) info.size false))
      else none
    | _, _, _ => none
  | none => none

def elemInfo (P : Program) (t : TypeId) : Option TypeInfo :=
  match P.underlying t with
  | some (.slice elem) => P.info? elem
  | _ => none

structure Bld where
  run : List (Nat × Value) → S → Option (Value × S)
def buildSlice (P : Program) (t : TypeId) (len : Nat) : Bld :=
  match elemInfo P t with
  | some info => match zeroI info with
    | some z =>
      bif Nat.ble (len * info.size) (2 ^ 24) && Nat.blt 0 info.size && Nat.beq z.cells.toList.length info.size then
        let sz := info.size
        let zs := rep z.cells.toList len
        ⟨fun parts S => match fillL (fun i => some (i * sz, sz)) zs parts with
          | some cs => some (.slice (some ⟨S.next, 0, none⟩) len len, S.new (.cells cs sz false))
          | none => none⟩
      else ⟨fun _ _ => none⟩
    | none => ⟨fun _ _ => none⟩
  | none => ⟨fun _ _ => none⟩

def build (P : Program) (t : TypeId) : Bld :=
  match zero P t with
  | some z =>
    let zs := z.cells.toList
    match P.underlying t with
    | some (.struct fields) => match placesOf P fields.toList with
      | some ps => ⟨fun parts S => match fillL (nth ps) zs parts with | some cs => some (.agg ⟨cs⟩, S) | none => none⟩
      | none => ⟨fun _ _ => none⟩
    | some (.array _ elem) => match size P elem with
      | some n => ⟨fun parts S => match fillL (fun i => some (i * n, n)) zs parts with | some cs => some (.agg ⟨cs⟩, S) | none => none⟩
      | none => ⟨fun _ _ => none⟩
    | _ => ⟨fun _ _ => none⟩
  | none => ⟨fun _ _ => none⟩

/-- What an operation comes to: a value, a call, a round of a loop over a function. -/
inductive Out where
  | value (v : Value)
  | enter (f : FuncId) (args : List Value)
  | round (l : Nat) (args : List Value)

def ofV (r : Option Value) (S : S) : Tr (Out × AE.S) := match r with | some v => .done (.value v, S) | none => .fail
def ofVS (r : Option (Value × S)) : Tr (Out × S) := match r with | some (v, S) => .done (.value v, S) | none => .fail
def ofS (r : Option S) : Tr (Out × S) := match r with | some S => .done (.value undef, S) | none => .fail
def ofO (r : Option Out) (S : S) : Tr (Out × AE.S) := match r with | some o => .done (o, S) | none => .fail

structure Cv where
  run : Value → S → Tr (Out × S)
def conv (P : Program) (src dst : TypeId) : Cv :=
  match P.underlying src with
  | none => ⟨fun _ _ => .fail⟩
  | some _ => match P.underlying dst with
  | some (.int k) => ⟨fun a S => match a with
    | .int _ n => .done (.value (.int k (wrapF k n)), S)
    | .float .. => ofV (svalF P (convert src dst a)) S
    | _ => .fail⟩
  | some _ => ⟨fun a S => bif plainV a then ofV (svalF P (convert src dst a)) S else .fail⟩
  | none => ⟨fun _ _ => .fail⟩

structure Bi where
  run : List Value → S → Tr (Out × S)
def allInt : List Value → Bool
  | [] => true
  | .int .. :: l => allInt l
  | _ => false
def builtin (P : Program) (b : Builtin) (argTypes : List TypeId) : Bi :=
  match b with
  | .append => match nth argTypes 0 with
    | none => ⟨fun _ _ => .fail⟩
    | some t => match elemInfo P t with
      | none => ⟨fun _ _ => .fail⟩
      | some info =>
        match (match nth argTypes 1 with | none => true | some u => match P.underlying u with | some (.int _) | none => false | _ => true) with
        | false => ⟨fun _ _ => .fail⟩
        | true =>
          let sz := info.size
          let by_ := info.bytes
          bif Nat.blt 0 sz && (match info.zero with | some z => Nat.beq z.cells.toList.length sz | none => false) then
            ⟨fun args S => match args with | [s, x] => ofVS (append sz by_ s x S) | _ => .fail⟩
          else ⟨fun _ _ => .fail⟩
  | .len => match nth argTypes 0 with
    | none => ⟨fun _ _ => .fail⟩
    | some t => match P.underlying t with
      | some .string => ⟨fun args S => match args with | [.string s] => .done (.value (goInt s.size), S) | _ => .fail⟩
      | some (.array n _) => ⟨fun args S => match args with | [_] => .done (.value (goInt n), S) | _ => .fail⟩
      | some (.slice _) => ⟨fun args S => match args with | [.slice _ n _] => .done (.value (goInt n), S) | _ => .fail⟩
      | some (.map _ _) => ⟨fun args S => match args with
        | [.map none] => .done (.value (goInt 0), S)
        | [.map (some r)] => match S.H.get r with | some (.map es _) => .done (.value (goInt es.length), S) | _ => .fail
        | _ => .fail⟩
      | _ => ⟨fun _ _ => .fail⟩
  | .max => ⟨fun l S => bif allInt l then ofV (svalF P (Builtin.max_ #[] 0 ⟨l⟩)) S else .fail⟩
  | .min => ⟨fun l S => bif allInt l then ofV (svalF P (Builtin.min_ #[] 0 ⟨l⟩)) S else .fail⟩
  | _ => ⟨fun _ _ => .fail⟩

/-- A method found in a type's own row: its function, how the receiver is made. -/
inductive Recv where
  | same
  | deref (sh : Shape)
def methodOf (P : Program) (t : TypeId) (name : String) : Option (FuncId × Recv) :=
  match P.info? t with
  | none => none
  | some i => match i.methods.find? (·.name == name) with
    | none => none
    | some m => bif m.path.toList.isEmpty then
        match m.func, P.underlying t with
        | some (f, true), some (.pointer _) => some (f, .same)
        | some (f, false), some (.pointer e) => some (f, .deref (shapeOf P e))
        | some (f, false), some _ => some (f, .same)
        | _, _ => none
      else none
def recvOf (r : Recv) (v : Value) (S : S) : Option Value :=
  match r with
  | .same => some v
  | .deref sh => match v with
    | .pointer (some a) => loadAt sh a S
    | _ => none

structure Cf where
  run : List Value → Option Out
def callF (P : Program) (f : FuncId) : Cf :=
  match P.funcs[f]? with
  | none => ⟨fun _ => none⟩
  | some fn => bif fn.name == "runtime.NumGoroutine" then ⟨fun _ => none⟩ else
    match fn.body with
    | some _ => ⟨fun args => some (.enter f args)⟩
    | none => ⟨fun args => bif args.all flat then
        match sval P (Go.callFunc f ⟨args⟩) with
        | some (.value v) => bif flat v then some (.value v) else none
        | _ => none
      else none⟩

def invoke (P : Program) (r : Value) (name : String) (args : List Value) (S : S) : Option Out :=
  match r with
  | .iface t v => match methodOf P t name with
    | none => none
    | some (f, k) => match recvOf k v S with
      | some x => (callF P f).run (x :: args)
      | none => none
  | _ => none

def callV (P : Program) (x : Value) (args : List Value) (S : S) : Option Out :=
  match x with
  | .func (.func f) first cap => (callF P f).run (first.toList ++ args ++ cap.toList)
  | .func (.method name) first _ => match first.toList ++ args with
    | r :: rest => invoke P r name rest S
    | [] => none
  | .func (.yield l) _ _ => some (.round l args)
  | _ => none

/-- An operation, made ready. -/
structure Hd where
  run : T Value → S → Tr (Out × S)

def hd (P : Program) : Op → Hd
  | .move x | .assign x => let x := opd P x; ⟨fun E S => ofV (x.run E) S⟩
  | .pick c a b => ⟨fun E S => match (opd P c).run E with
    | some (.bool true) => ofV ((opd P a).run E) S
    | some (.bool false) => ofV ((opd P b).run E) S
    | _ => .fail⟩
  | .alloc t => match zero P t with
    | some z => let l := z.cells.toList; let e := eszOf P t; ⟨fun _ S => .done (.value (.pointer (some ⟨S.next, 0, none⟩)), S.new (.cells l e false))⟩
    | none => ⟨fun _ _ => .fail⟩
  | .box t x => let e := eszOf P t; ⟨fun E S => match (opd P x).run E with
    | some z => .done (.value (.pointer (some ⟨S.next, 0, none⟩)), S.new (.cells z.cells.toList e false))
    | none => .fail⟩
  | .build t parts => let ps := partsOf P parts.toList; let b := build P t; ⟨fun E S => match ps.run E with
    | some l => ofVS (b.run l S)
    | none => .fail⟩
  | .buildSlice t len parts => let ps := partsOf P parts.toList; let b := buildSlice P t len; ⟨fun E S => match ps.run E with
    | some l => ofVS (b.run l S)
    | none => .fail⟩
  | .load t x => let sh := shapeOf P t; ⟨fun E S => match (opd P x).run E with
    | some (.pointer (some a)) => ofV (loadAt sh a S) S
    | _ => .fail⟩
  | .store t x y => match size P t with
    | some n => ⟨fun E S => match (opd P x).run E with
      | some (.pointer (some a)) => match (opd P y).run E with
        | some v => ofS (storeAt n a v S)
        | none => .fail
      | _ => .fail⟩
    | none => ⟨fun _ _ => .fail⟩
  | .nilCheck x => ⟨fun E S => match (opd P x).run E with
    | none | some (.pointer none) | some .nilIface | some .nilFunc => .fail
    | some (.func (.method _) _ _) => .fail
    | some a => .done (.value a, S)⟩
  | .binOp op t x y _ => let b := binary P op t x y; ⟨fun E S => match (opd P x).run E with
    | some u => match (opd P y).run E with
      | some v => ofV (b.run u v) S
      | none => .fail
    | none => .fail⟩
  | .unOp op _ x => ⟨fun E S => match (opd P x).run E with
    | some a => bif plainV a then ofV (svalF P (Op.unary op a)) S else .fail
    | none => .fail⟩
  | .convert src dst x => let c := conv P src dst; ⟨fun E S => match (opd P x).run E with
    | some a => c.run a S
    | none => .fail⟩
  | .makeInterface t x => match P.underlying t with
    | some (.interface _) | none => ⟨fun _ _ => .fail⟩
    | some _ => ⟨fun E S => match (opd P x).run E with
      | some a => .done (.value (.iface t a), S)
      | none => .fail⟩
  | .makeFunc fn first cap => match fn with
    | .yield _ => ⟨fun _ _ => .fail⟩
    | fn => ⟨fun E S => match (opds P first.toList).run E with
      | some l => match (opds P cap.toList).run E with
        | some m => .done (.value (.func fn ⟨l⟩ ⟨m⟩), S)
        | none => .fail
      | none => .fail⟩
  | .makeMap t r => match r with
    | none => ⟨fun _ S => .done (.value (.map (some S.next)), S.new (.map [] 0))⟩
    | some r => match P.underlying t with
      | some (.map _ _) => ⟨fun E S => match (opd P r).run E with
        | some (.int ..) => .done (.value (.map (some S.next)), S.new (.map [] 0))
        | _ => .fail⟩
      | _ => ⟨fun _ _ => .fail⟩
  | .makeSlice t l c => let i := elemInfo P t; ⟨fun E S => match (opd P l).run E with
    | some l => match (opd P c).run E with
      | some c => ofVS (makeSlice i l c S)
      | none => .fail
    | none => .fail⟩
  | .slice t x lo hi mx => match mx with
    | some _ => ⟨fun _ _ => .fail⟩
    | none =>
      let k := slK P t
      match lo, hi with
      | none, none => ⟨fun E S => match (opd P x).run E with
        | some a => ofV (sliceExpr k a none none S) S
        | none => .fail⟩
      | some lo, none => ⟨fun E S => match (opd P x).run E with
        | some a => match (opd P lo).run E with
          | some l => ofV (sliceExpr k a (some l) none S) S
          | none => .fail
        | none => .fail⟩
      | none, some hi => ⟨fun E S => match (opd P x).run E with
        | some a => match (opd P hi).run E with
          | some h => ofV (sliceExpr k a none (some h) S) S
          | none => .fail
        | none => .fail⟩
      | some lo, some hi => ⟨fun E S => match (opd P x).run E with
        | some a => match (opd P lo).run E with
          | some l => match (opd P hi).run E with
            | some h => ofV (sliceExpr k a (some l) (some h) S) S
            | none => .fail
          | none => .fail
        | none => .fail⟩
  | .fieldAddr s x i => match P.underlying s with
    | some (.struct fields) => match nth fields.toList i with
      | some f => match size P f.type with
        | some (_ + 1) => let o := f.offset; ⟨fun E S => match (opd P x).run E with
          | some (.pointer (some a)) => .done (.value (.pointer (some ⟨a.block, a.off + o, a.spot⟩)), S)
          | _ => .fail⟩
        | _ => ⟨fun _ _ => .fail⟩
      | none => ⟨fun _ _ => .fail⟩
    | _ => ⟨fun _ _ => .fail⟩
  | .field s x i => match P.underlying s with
    | some (.struct fields) => match nth fields.toList i with
      | some f => let sh := shapeOf P f.type; let o := f.offset; ⟨fun E S => match (opd P x).run E with
        | some (.agg cs) => ofV (partAt sh cs.toList o) S
        | _ => .fail⟩
      | none => ⟨fun _ _ => .fail⟩
    | _ => ⟨fun _ _ => .fail⟩
  | .indexAddr t x i => let k := slK P t; ⟨fun E S => match (opd P x).run E with
    | some a => match (opd P i).run E with
      | some i => ofV (indexAddr k a i) S
      | none => .fail
    | none => .fail⟩
  | .index t x i => let k := ixK P t; ⟨fun E S => match (opd P x).run E with
    | some a => match (opd P i).run E with
      | some i => ofV (index k a i) S
      | none => .fail
    | none => .fail⟩
  | .lookup t x k ok => match P.underlying t with
    | some (.map key elem) => let K := keyK P key; let z := zero P elem; ⟨fun E S => match (opd P x).run E with
      | some a => match (opd P k).run E with
        | some k => ofV (lookup K z a k ok S) S
        | none => .fail
      | none => .fail⟩
    | _ => ⟨fun _ _ => .fail⟩
  | .mapUpdate t m k x | .insert t m k x => match P.underlying t with
    | some (.map key _) => let K := keyK P key; ⟨fun E S => match (opd P m).run E with
      | some a => match (opd P k).run E with
        | some k => match (opd P x).run E with
          | some v => ofS (mapUpdate K a k v S)
          | none => .fail
        | none => .fail
      | none => .fail⟩
    | _ => ⟨fun _ _ => .fail⟩
  | .range t x => let d := P.underlying t; ⟨fun E S => match (opd P x).run E with
    | some a => ofVS (range d a S)
    | none => .fail⟩
  | .next it str => ⟨fun E S => match (opd P it).run E with
    | some a => (next a str S).bind fun x => match x with | (v, S) => .done (.value v, S)
    | none => .fail⟩
  | .entry it => ⟨fun E S => match (opd P it).run E with
    | some a => ofV (entry a S) S
    | none => .fail⟩
  | .typeAssert x _ asserted ok => let k := asK P asserted; let z := zero P asserted; ⟨fun E S => match (opd P x).run E with
    | some a => ofV (typeAssert P k z a ok) S
    | none => .fail⟩
  | .extract x i => ⟨fun E S => match (opd P x).run E with
    | some (.tuple vs) => ofV (nth vs.toList i) S
    | _ => .fail⟩
  | .call c =>
    let as_ := opds P c.args.toList
    match c.callee with
    | .builtin b => let f := builtin P b c.argTypes.toList; ⟨fun E S => match as_.run E with
      | some l => f.run l S
      | none => .fail⟩
    | .invoke r name => ⟨fun E S => match as_.run E with
      | some l => match (opd P r).run E with
        | some v => ofO (invoke P v name l S) S
        | none => .fail
      | none => .fail⟩
    | .value f => match f with
      | .func f => let k := callF P f; ⟨fun E S => match as_.run E with
        | some l => ofO (k.run l) S
        | none => .fail⟩
      | f => ⟨fun E S => match as_.run E with
        | some l => match (opd P f).run E with
          | some v => ofO (callV P v l S) S
          | none => .fail
        | none => .fail⟩
  | _ => ⟨fun _ _ => .fail⟩

inductive Res where
  | normal
  | exit (id : Nat)
  | ret
  deriving Inhabited

/-- A place for a result, made ready. -/
structure Pt where
  run : T Value → Value → T Value
def putTo (d : Option Tmp) : Pt :=
  match d with
  | none => ⟨fun E _ => E⟩
  | some d => let p := path d; ⟨fun E v => E.setP p (some v)⟩

/-- Is an operation wanted? -/
structure Gd where
  run : T Value → Option Bool
def guardOf (all : List Oper) (o : Oper) : Gd :=
  match o.guard with
  | none => ⟨fun _ => some true⟩
  | some (j, want) => match nth all j with
    | none => ⟨fun _ => none⟩
    | some q => match q.dst with
      | none => ⟨fun _ => none⟩
      | some d => let p := path d; ⟨fun E => match E.getP p with
        | some (.bool b) => some (b == want)
        | some _ => some false
        | none => none⟩

/-- What the evaluator is made of: code, calls, rounds. -/
structure Rec where
  code : Bool → Code → T Value → S → Tr (Res × T Value × S)
  call : FuncId → List Value → S → Tr (Value × S)
  round : Nat → List Value → S → Tr (Value × S)

/-! Regions that draw: what may float. -/
inductive Cls where
  | pure | reader | alloc | chain
  deriving DecidableEq
def cls : Op → Cls
  | .move _ | .assign _ | .pick .. | .build .. | .nilCheck _ | .binOp .. | .unOp .. | .convert .. | .makeInterface .. | .makeFunc .. | .fieldAddr .. | .field .. | .indexAddr .. | .index .. | .typeAssert .. | .extract .. => .pure
  | .load .. | .lookup .. | .slice .. => .reader
  | .call { callee := .builtin .len, .. } => .reader
  | .call { callee := .builtin .max, .. } | .call { callee := .builtin .min, .. } => .pure
  | .alloc _ => .alloc
  | _ => .chain
def isChain (o : Op) : Bool := match cls o with | .chain => true | _ => false

def bindsA (e : Edge) : Bool := match e.ground with | .textOnly _ | .gcOnly _ => false | _ => true
def bits (acc : List Nat) : List Edge → Nat
  | [] => 0
  | e :: l => bif bindsA e then Nat.lor (Nat.lor (2 ^ e.on) (match nth acc e.on with | some m => m | none => 0)) (bits acc l) else bits acc l
/-- For each operation: which ones it waits for (bits). -/
def befL : List Oper → List Nat → List Nat
  | [], acc => acc
  | o :: l, acc => befL l (acc ++ [bits acc o.after.toList])
def waits (b : List Nat) (i j : Nat) : Bool := match nth b j with | some m => m.testBit i | none => false

def tmpsOf : List Operand → List Tmp
  | [] => []
  | .tmp t :: l => t :: tmpsOf l
  | _ :: l => tmpsOf l
def looks (all : List Oper) (o : Oper) : List Tmp :=
  tmpsOf o.op.operands.toList ++ (match o.guard with
    | some (g, _) => match nth all g with | some q => (match q.dst with | some d => [d] | none => []) | none => []
    | none => [])
def hasT (t : Tmp) : List Tmp → Bool
  | [] => false
  | x :: l => Nat.beq x t || hasT t l
/-- Does one of two operations, the first or the second, write what the other looks at or writes? -/
def clash (all : List Oper) (x y : Oper) : Bool :=
  (match x.dst with
    | some d => hasT d (looks all y) || (match y.dst with | some e => Nat.beq e d | none => false)
    | none => false) ||
  (match y.dst with
    | some e => hasT e (looks all x)
    | none => false)
/-- Of each two chained operations, and of each two that meet in a temporary, the later waits for the earlier. -/
def orderOK (all : List Oper) (b : List Nat) (o : Oper) (i : Nat) : List Oper → Nat → Bool
  | [], _ => true
  | q :: l, j => ((!(isChain o.op && isChain q.op || clash all o q)) || waits b i j) && orderOK all b o i l (Nat.succ j)
def ordersOK (all : List Oper) (b : List Nat) : List Oper → Nat → Bool
  | [], _ => true
  | o :: l, i => orderOK all b o i l (Nat.succ i) && (o.after.toList.all fun e => !bindsA e || Nat.blt e.on i) && ordersOK all b l (Nat.succ i)

/-- Which object a reading operation reads. -/
structure Rd where
  run : T Value → Option (Option Nat)
def objOf : Value → Option Nat
  | .pointer (some a) => some a.block
  | .slice (some a) _ _ => some a.block
  | .map m => m
  | _ => none
def readsOf (P : Program) (o : Op) : Rd :=
  match o with
  | .load _ x | .lookup _ x _ _ | .slice _ x _ _ _ => ⟨fun E => match (opd P x).run E with | some v => some (objOf v) | none => none⟩
  | .call c => match c.args.toList with
    | [x] => ⟨fun E => match (opd P x).run E with | some v => some (objOf v) | none => none⟩
    | _ => ⟨fun _ => none⟩
  | _ => ⟨fun _ => none⟩

structure Acc where
  rds : List (Nat × Nat × Nat)
  chs : List (Nat × S × List Nat)

def fresh (old : List Nat) (new : List Nat) : List Nat := new.take (new.length - old.length)
def hasN (n : Nat) : List Nat → Bool
  | [] => false
  | x :: l => Nat.beq x n || hasN n l

def float (b : List Nat) (a : Acc) : Bool :=
  a.rds.all fun (i, id, m) => a.chs.all fun (k, s, d) =>
    Nat.blt k m || (Nat.blt i k && waits b i k) || (Nat.blt id s.next && !hasN id d)

/-- The first state in which a reading operation may come up. -/
def early (b : List Nat) (i m : Nat) (s : S) : List (Nat × S × List Nat) → Nat × S
  | [] => (m, s)
  | (k, s1, _) :: l => bif waits b k i then early b i m s l else early b i k s1 l

/-- An operation of a region, made ready. -/
structure Ob where
  hd : Hd
  dst : Pt
  guard : Gd
  cls : Cls
  rd : Rd
def obs (P : Program) (all : List Oper) : List Oper → List Ob
  | [] => []
  | o :: l => ⟨hd P o.op, putTo o.dst, guardOf all o, cls o.op, readsOf P o.op⟩ :: obs P all l

/-- The variables that a region that draws makes: they stand ready before it begins. -/
def vars (P : Program) : List Oper → Option (List AO)
  | [] => some []
  | o :: l => match o.op with
    | .alloc t => match zero P t with
      | some z => match vars P l with | some r => some (.cells z.cells.toList (eszOf P t) false :: r) | none => none
      | none => none
    | _ => vars P l
def reserve : List AO → S → S
  | [], S => S
  | o :: l, S => reserve l (S.new o)

def note (E : T Value) (r : Rd) (i m : Nat) (A : Acc) : Option Acc :=
  match r.run E with
  | none => none
  | some none => some A
  | some (some id) => some ⟨(i, id, m) :: A.rds, A.chs⟩

def finish (R : Rec) (x : Out × S) : Tr (Value × S) :=
  match x with
  | (.value v, S) => .done (v, S)
  | (.enter f args, S) => R.call f args S
  | (.round l args, S) => R.round l args S

def opers (R : Rec) (l : List Ob) : T Value → S → Tr (T Value × S) :=
  List.rec (motive := fun _ => T Value → S → Tr (T Value × S)) (fun E S => .done (E, S))
    (fun o _ ih E S =>
      match o.guard.run E with
      | none => .fail
      | some false => ih (o.dst.run E undef) S
      | some true => (o.hd.run E S).bind fun x => (finish R x).bind fun y => match y with | (v, S2) => ih (o.dst.run E v) S2) l
def dopers (R : Rec) (b : List Nat) (l : List Ob) : Nat → Nat → T Value → S → Acc → Option (T Value × S × Acc) :=
  List.rec (motive := fun _ => Nat → Nat → T Value → S → Acc → Option (T Value × S × Acc)) (fun _ _ E S A => some (E, S, A))
    (fun o _ ih i var E S A =>
      match o.guard.run E with
      | none => none
      | some false => ih (Nat.succ i) (match o.cls with | .alloc => Nat.succ var | _ => var) (o.dst.run E undef) S A
      | some true => match o.cls with
        | .alloc => ih (Nat.succ i) (Nat.succ var) (o.dst.run E (.pointer (some ⟨var, 0, none⟩))) S A
        | .pure => match o.hd.run E S with
          | .done (.value v, _) => ih (Nat.succ i) var (o.dst.run E v) S A
          | _ => none
        | .reader => match early b i i S A.chs with
          | (m, S1) => match o.hd.run E S1 with
            | .done (.value v, _) => match note E o.rd i m A with
              | some A => ih (Nat.succ i) var (o.dst.run E v) S A
              | none => none
            | _ => none
        | .chain => match (o.hd.run E S).bind (finish R) with
          | .done (v, S2) => ih (Nat.succ i) var (o.dst.run E v) S2 ⟨A.rds, (i, S, fresh S.log S2.log) :: A.chs⟩
          | _ => none) l

/-- Code, made ready. (The Bool: is it a round of a loop over a function?) -/
structure Cd where
  run : Rec → Bool → T Value → S → Tr (Res × T Value × S)

def region (P : Program) (ops : Array Oper) (draw : Bool) : Cd :=
  let l := obs P ops.toList ops.toList
  bif draw then
    let b := befL ops.toList []
    bif P.follows .mixedOrders && ordersOK ops.toList b ops.toList 0 then
      match vars P ops.toList with
      | some vs => ⟨fun R _ E S => match dopers R b l 0 S.next E (reserve vs S) ⟨[], []⟩ with
        | some (E, S, A) => bif float b A then .done (.normal, E, S) else .fail
        | none => .fail⟩
      | none => ⟨fun _ _ _ _ => .fail⟩
    else ⟨fun _ _ _ _ => .fail⟩
  else ⟨fun R _ E S => (opers R l E S).bind fun x => match x with | (E, S) => .done (.normal, E, S)⟩

def jumpOf : Res → Option Code
  | .normal => none
  | .ret => some .ret
  | .exit i => some (.exit i)

def cd (P : Program) : Code → Cd
  | .skip | .label _ => ⟨fun _ _ E S => .done (.normal, E, S)⟩
  | .region _ ops draw => region P ops draw
  | .seq a b => let a := cd P a; let b := cd P b; ⟨fun R q E S => (a.run R q E S).bind fun x => match x with
    | (.normal, E, S) => b.run R q E S
    | x => .done x⟩
  | .cond c a b => let a := cd P a; let b := cd P b; ⟨fun R q E S => match (opd P c).run E with
    | some (.bool true) => a.run R q E S
    | some (.bool false) => b.run R q E S
    | _ => .fail⟩
  | .block id b => let b := cd P b; ⟨fun R q E S => (b.run R q E S).bind fun x => match x with
    | (.exit i, E, S) => .done (bif Nat.beq i id then .normal else .exit i, E, S)
    | x => .done x⟩
  | .loop b => let k := cd P b; ⟨fun R q E S => (k.run R q E S).bind fun x => match x with
    | (.normal, E, S) => R.code q (.loop b) E S
    | x => .done x⟩
  | .scope b => cd P b
  | .exit id => ⟨fun _ _ E S => .done (.exit id, E, S)⟩
  | .ret => ⟨fun _ _ E S => .done (.ret, E, S)⟩
  | .rangeFunc f params assign body => let f := opd P f; ⟨fun R q E S => match q, f.run E with
    | true, _ | _, none => .fail
    | false, some fv =>
      let S1 := (S.new .deferred).new (.loop .ready none 0 E params.toList assign body S.next)
      match callV P fv [.func (.yield (S.next + 1)) #[] #[]] S1 with
      | some (.enter g args) => (R.call g args S1).bind fun x => match x with
       | (_, S2) => match S2.H.get (S.next + 1) with
        | some (.loop .busy _ _ _ _ _ _ _) => .fail
        | some (.loop _ pending fn env ps as bd df) =>
          let S3 := S2.upd (S.next + 1) (.loop .exhausted pending fn env ps as bd df)
          match pending with
          | none => .done (.normal, E, S3)
          | some .ret => .done (.ret, E, S3)
          | some (.exit i) => .done (.exit i, E, S3)
          | some _ => .fail
        | _ => .fail
      | _ => .fail⟩
  | _ => ⟨fun _ _ _ _ => .fail⟩

structure Rs where
  run : T Value → S → Option (List Value)
def resultVals (P : Program) : List ResultVar → Rs
  | [] => ⟨fun _ _ => some []⟩
  | .tmp t :: l => let p := path t; ⟨fun E S => match E.getP p with
    | some v => match (resultVals P l).run E S with | some r => some (v :: r) | none => none
    | none => none⟩
  | .cell a t :: l => let sh := shapeOf P t; let p := path a; ⟨fun E S => match E.getP p with
    | some (.pointer (some a)) => match loadAt sh a S with
      | some v => match (resultVals P l).run E S with | some r => some (v :: r) | none => none
      | none => none
    | _ => none⟩
def packed : List Value → Value
  | [v] => v
  | l => .tuple ⟨l⟩

def bindAll (E : T Value) : Nat → List Value → T Value
  | _, [] => E
  | i, v :: l => bindAll (E.setP (path i) (some v)) (Nat.succ i) l
def bindAt (E : T Value) : List Tmp → List Value → T Value
  | t :: ts, v :: l => bindAt (E.setP (path t) (some v)) ts l
  | _, _ => E

/-- All temporaries that code writes lie in the frame. -/
def wf (n : Nat) : Code → Bool
  | .region _ ops _ => ops.toList.all fun o => match o.dst with | some d => Nat.blt d n | none => true
  | .seq a b => wf n a && wf n b
  | .cond _ a b => wf n a && wf n b
  | .block _ b => wf n b
  | .loop b => wf n b
  | .scope b => wf n b
  | .rangeFunc _ ps a b => ps.toList.all (Nat.blt · n) && wf n a && wf n b
  | _ => true

abbrev Oracle := FuncId → Option (List Value → S → Option (Value × S))

def sameFlat : Value → Value → Bool
  | .bool a, .bool b => a == b
  | .int j a, .int k b => j == k && a == b
  | .tuple a, .tuple b => a.toList.isEmpty && b.toList.isEmpty
  | _, _ => false

/-- Where a call leaves nothing open but what it writes into memory of its own: what is open is dropped. -/
def collapse (S : S) (t : Tr (Value × AE.S)) : Tr (Value × AE.S) :=
  match t with
  | .fail => .fail
  | .done x => .done x
  | .ask n k => match (k 0).first with
    | some x => bif !Nat.beq n 0 && Tr.all (fun y => sameFlat x.1 y.1 && (fresh S.log y.2.log).all fun id => Nat.ble S.next id) (.ask n k) then .done (x.1, S) else .ask n k
    | none => .fail

structure Fc where
  run : Rec → List Value → S → Tr (Value × S)
def fc (P : Program) (O : Oracle) (f : FuncId) : Fc :=
  match O f with
  | some s => ⟨fun _ args S => .of (s args S)⟩
  | none => match P.funcs[f]? with
    | none => ⟨fun _ _ _ => .fail⟩
    | some fn => match fn.body with
      | none => ⟨fun _ _ _ => .fail⟩
      | some c => bif wf fn.ntmps c then
          let n := fn.ntmps
          let k := cd P c
          let rs := resultVals P fn.results.toList
          ⟨fun R args S => bif Nat.ble args.length n then
            collapse S ((k.run R false (bindAll .nil 0 args) S).bind fun x => match x with
            | (.exit _, _, _) => .fail
            | (_, E, S) => match rs.run E S with
              | some l => .done (packed l, S)
              | none => .fail)
            else .fail⟩
        else ⟨fun _ _ _ => .fail⟩

def step (P : Program) (O : Oracle) (R : Rec) : Rec where
  code q c E S := (cd P c).run R q E S
  call f args S := (fc P O f).run R args S
  round l args S := match S.H.get l with
    | some (.loop .ready _ _ env ps assign body _) =>
      bif Nat.beq ps.length args.length then
        ((cd P assign).run R true (bindAt env ps args) S).bind fun x => match x with
        | (.normal, E, S) =>
          match S.H.get l with
          | some (.loop .ready p fn env ps as bd df) =>
            ((cd P body).run R true E (S.upd l (.loop .busy p fn env ps as bd df))).bind fun x => match x with
            | (r, _, S) => match S.H.get l with
              | some (.loop _ _ fn env ps as bd df) =>
                .done (.bool (jumpOf r).isNone, S.upd l (.loop (match r with | .normal => .ready | _ => .done) (jumpOf r) fn env ps as bd df))
              | _ => .fail
          | _ => .fail
        | _ => .fail
      else .fail
    | _ => .fail

def failing : Rec := ⟨fun _ _ _ _ => .fail, fun _ _ _ => .fail, fun _ _ _ => .fail⟩
def eval (P : Program) (O : Oracle) : Nat → Rec
  | 0 => failing
  | n + 1 => step P O (eval P O n)

end
end Go.AE
