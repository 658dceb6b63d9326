/- The abstract machine AM, part 1: its definition; how its heap stands to a world; operations. -/
import Derived.Orders
import Derived.Laws.IdiomCopy
import Derived.Laws.Strings
import Derived.Laws.StructEq

namespace Go.AM
noncomputable section

/-- An object of the abstract heap. 'opn': the slices over it may have a capacity that is not known (it was made by an append that grew, or by a conversion of a string). -/
inductive AObj where
  | cells (cs : List Value) (elem : TypeId) (opn : Bool)
  | map (es : List (Value × Value))
  | iter (s : ByteArray) (pos : Nat)
  | dead
  deriving Inhabited

def hasN (l : List Nat) (x : Nat) : Bool := l.any (Nat.beq x)

/-- A digit, to the base of eight. -/
inductive D8 where
  | n0 | n1 | n2 | n3 | n4 | n5 | n6 | n7

/-- The temporaries: a tree, the way to number k is its digits. -/
inductive TT where
  | leaf
  | node (v : Value) (c0 c1 c2 c3 c4 c5 c6 c7 : TT)
  deriving Inhabited

def digit (m : Nat) : D8 :=
  match m with
  | 0 => .n0
  | 1 => .n1
  | 2 => .n2
  | 3 => .n3
  | 4 => .n4
  | 5 => .n5
  | 6 => .n6
  | _ => .n7

/-- The way to a number: its digits from the lowest one on; none for zero. -/
def wayF (f : Nat) : Nat → List D8 :=
  Nat.rec (fun _ => []) (fun _ ih k => Nat.rec [] (fun m _ => List.cons (digit (Nat.mod m 8)) (ih (Nat.div m 8))) k) f

def way (k : Nat) : List D8 := wayF 21 k

def TT.getP : List D8 → TT → Value :=
  List.rec (motive := fun _ => TT → Value) (TT.rec (motive := fun _ => Value) undef (fun v _ _ _ _ _ _ _ _ _ _ _ _ _ _ _ _ => v))
    (fun d _ ih => TT.rec (motive := fun _ => Value) undef (fun _ c0 c1 c2 c3 c4 c5 c6 c7 _ _ _ _ _ _ _ _ => D8.rec (motive := fun _ => Value) (ih c0) (ih c1) (ih c2) (ih c3) (ih c4) (ih c5) (ih c6) (ih c7) d))

def TT.setP (p : List D8) (v : Value) : TT → TT :=
  List.rec (motive := fun _ => TT → TT) (TT.rec (motive := fun _ => TT) (.node v .leaf .leaf .leaf .leaf .leaf .leaf .leaf .leaf) (fun _ c0 c1 c2 c3 c4 c5 c6 c7 _ _ _ _ _ _ _ _ => .node v c0 c1 c2 c3 c4 c5 c6 c7))
    (fun d _ ih => TT.rec (motive := fun _ => TT) (D8.rec (motive := fun _ => TT) (.node undef (ih .leaf) .leaf .leaf .leaf .leaf .leaf .leaf .leaf) (.node undef .leaf (ih .leaf) .leaf .leaf .leaf .leaf .leaf .leaf) (.node undef .leaf .leaf (ih .leaf) .leaf .leaf .leaf .leaf .leaf) (.node undef .leaf .leaf .leaf (ih .leaf) .leaf .leaf .leaf .leaf) (.node undef .leaf .leaf .leaf .leaf (ih .leaf) .leaf .leaf .leaf) (.node undef .leaf .leaf .leaf .leaf .leaf (ih .leaf) .leaf .leaf) (.node undef .leaf .leaf .leaf .leaf .leaf .leaf (ih .leaf) .leaf) (.node undef .leaf .leaf .leaf .leaf .leaf .leaf .leaf (ih .leaf)) d)
      (fun u c0 c1 c2 c3 c4 c5 c6 c7 _ _ _ _ _ _ _ _ => D8.rec (motive := fun _ => TT) (.node u (ih c0) c1 c2 c3 c4 c5 c6 c7) (.node u c0 (ih c1) c2 c3 c4 c5 c6 c7) (.node u c0 c1 (ih c2) c3 c4 c5 c6 c7) (.node u c0 c1 c2 (ih c3) c4 c5 c6 c7) (.node u c0 c1 c2 c3 (ih c4) c5 c6 c7) (.node u c0 c1 c2 c3 c4 (ih c5) c6 c7) (.node u c0 c1 c2 c3 c4 c5 (ih c6) c7) (.node u c0 c1 c2 c3 c4 c5 c6 (ih c7)) d)) p

def TT.get (t : TT) (k : Nat) : Value := TT.getP (way k) t
def TT.set (t : TT) (k : Nat) (v : Value) : TT := TT.setP (way k) v t
def TT.put (t : TT) (d : Option Tmp) (v : Value) : TT := match d with | some d => t.set d v | none => t

/-- The temporaries of a call. -/
def TT.ofArgs : Nat → List Value → TT → TT
  | _, [], t => t
  | i, v :: vs, t => TT.ofArgs (i + 1) vs (t.set i v)


/-- The abstract heap's objects: a tree, the way to number k is the digits of k + 1. -/
inductive HT where
  | leaf
  | node (o : AObj) (l r : HT)
  deriving Inhabited

def HT.getP : List Bool → HT → AObj :=
  List.rec (motive := fun _ => HT → AObj) (HT.rec (motive := fun _ => AObj) .dead (fun v _ _ _ _ => v))
    (fun b _ ih => HT.rec (motive := fun _ => AObj) .dead (fun _ l r _ _ => Bool.rec (motive := fun _ => AObj) (ih l) (ih r) b))

def HT.setP (p : List Bool) (v : AObj) : HT → HT :=
  List.rec (motive := fun _ => HT → HT) (HT.rec (motive := fun _ => HT) (.node v .leaf .leaf) (fun _ l r _ _ => .node v l r))
    (fun b _ ih => HT.rec (motive := fun _ => HT) (Bool.rec (motive := fun _ => HT) (.node .dead (ih .leaf) .leaf) (.node .dead .leaf (ih .leaf)) b)
      (fun u l r _ _ => Bool.rec (motive := fun _ => HT) (.node u (ih l) r) (.node u l (ih r)) b)) p

@[simp] theorem HT.getP_leaf (p : List Bool) : HT.getP p .leaf = .dead := by cases p <;> rfl
@[simp] theorem HT.getP_nil (v : AObj) (l r : HT) : HT.getP [] (.node v l r) = v := rfl
@[simp] theorem HT.getP_false (p : List Bool) (v : AObj) (l r : HT) : HT.getP (false :: p) (.node v l r) = HT.getP p l := rfl
@[simp] theorem HT.getP_true (p : List Bool) (v : AObj) (l r : HT) : HT.getP (true :: p) (.node v l r) = HT.getP p r := rfl
@[simp] theorem HT.setP_nil_leaf (v : AObj) : HT.setP [] v .leaf = .node v .leaf .leaf := rfl
@[simp] theorem HT.setP_nil (v u : AObj) (l r : HT) : HT.setP [] v (.node u l r) = .node v l r := rfl
@[simp] theorem HT.setP_false_leaf (p : List Bool) (v : AObj) : HT.setP (false :: p) v .leaf = .node .dead (HT.setP p v .leaf) .leaf := rfl
@[simp] theorem HT.setP_true_leaf (p : List Bool) (v : AObj) : HT.setP (true :: p) v .leaf = .node .dead .leaf (HT.setP p v .leaf) := rfl
@[simp] theorem HT.setP_false (p : List Bool) (v u : AObj) (l r : HT) : HT.setP (false :: p) v (.node u l r) = .node u (HT.setP p v l) r := rfl
@[simp] theorem HT.setP_true (p : List Bool) (v u : AObj) (l r : HT) : HT.setP (true :: p) v (.node u l r) = .node u l (HT.setP p v r) := rfl

/-- The next way. -/
def incB : List Bool → List Bool := List.rec (motive := fun _ => List Bool) [false] (fun b p ih => Bool.rec (motive := fun _ => List Bool) (true :: p) (false :: ih) b)

/-- The way to an object: the digits of k + 1 but for the highest one, reckoned by steps of one (no division: the number may stand behind free variables). -/
def wayH (k : Nat) : List Bool := Nat.rec [] (fun _ ih => incB ih) k

/-- The abstract heap: how many objects it has, and its objects by number. -/
structure Heap where
  n : Nat
  t : HT
  deriving Inhabited

def Heap.get (H : Heap) (i : Nat) : AObj :=
  match Nat.blt i H.n with
  | true => HT.getP (wayH i) H.t
  | false => .dead

def Heap.push (H : Heap) (o : AObj) : Heap := ⟨H.n + 1, HT.setP (wayH H.n) o H.t⟩

def Heap.set (H : Heap) (i : Nat) (o : AObj) : Heap := ⟨H.n, HT.setP (wayH i) o H.t⟩

/-- The kinds of plain cells. -/
inductive CK where
  | b
  | i (k : IntKind)
  | s

def kindOk : CK → Value → Bool
  | .b, .bool _ => true
  | .i k, .int k' _ => decide (k = k')
  | .s, .string _ => true
  | _, _ => false

def kindsOk : List CK → List Value → Bool
  | [], [] => true
  | c :: cs, v :: vs => kindOk c v && kindsOk cs vs
  | _, _ => false

/-- What a call comes to. -/
structure CallRes where
  v : Value
  H : Heap
  dirty : List Nat

/-- What is given beside the program: the struct and array types that may be compared cell by cell, and functions whose calls are told (those without a body). -/
structure Env where
  P : Program
  eqs : TypeId → Option (List CK)
  ext : FuncId → Option (List Value → Heap → Option CallRes)

def eval (t : TT) : Operand → Value
  | .tmp k => t.get k
  | .const v => v
  | .global g => .pointer (some ⟨g, 0, none⟩)
  | .func f => .func (.func f) #[] #[]

/-- The wrap of a kind of integers. -/
def wrapF (k : IntKind) (n : Int) : Int :=
  match k with
  | .i64 => match (n % 18446744073709551616) with
    | .ofNat m => match Nat.blt m 9223372036854775808 with | true => .ofNat m | false => (Int.ofNat m) - 18446744073709551616
    | .negSucc m => .negSucc m
  | .u64 => n % 18446744073709551616
  | .u8 => n % 256
  | .u32 => n % 4294967296
  | .i32 => match (n % 4294967296) with
    | .ofNat m => match Nat.blt m 2147483648 with | true => .ofNat m | false => (Int.ofNat m) - 4294967296
    | .negSucc m => .negSucc m
  | k => k.wrap n

/-- The cells of a value: a list. -/
def cellsL : Value → List Value
  | .agg cs => cs.toList
  | v => [v]

/-- A value that one cell may hold. -/
def cellOk : Value → Bool
  | .agg _ => false
  | .tuple _ => false
  | _ => true

/-- The cells from number o on, n of them. -/
def takeL : Nat → List Value → Option (List Value)
  | 0, _ => some []
  | _ + 1, [] => none
  | n + 1, c :: cs => match takeL n cs with
    | some r => some (c :: r)
    | none => none

def takeAt (o n : Nat) (cs : List Value) : Option (List Value) := takeL n (cs.drop o)

/-- The cells, some of them others from number o on. -/
def putL : List Value → List Value → Option (List Value)
  | [], cs => some cs
  | _ :: _, [] => none
  | v :: vs, _ :: cs => match cellOk v with
    | true => match putL vs cs with
      | some r => some (v :: r)
      | none => none
    | false => none

def putAt : Nat → List Value → List Value → Option (List Value)
  | 0, vs, cs => putL vs cs
  | _ + 1, _, [] => none
  | o + 1, vs, c :: cs => match putAt o vs cs with
    | some r => some (c :: r)
    | none => none

/-- Equality of two plain cells. -/
def eqCell : Value → Value → Option Bool
  | .bool a, .bool b => some (a == b)
  | .int j a, .int k b => match decide (j = k) with | true => some (decide (a = b)) | false => none
  | .string a, .string b => some (decide (a.data.toList = b.data.toList))
  | _, _ => none

def eqCells : List Value → List Value → Option Bool
  | [], [] => some true
  | a :: as, b :: bs => match eqCell a b, eqCells as bs with
    | some x, some y => some (x && y)
    | _, _ => none
  | _, _ => none

/-- What an operation comes to: its value, the heap; the objects that it read (a call: all) and wrote. -/
structure OpRes where
  v : Value
  H : Heap
  rd : List Nat
  rdAll : Bool
  wr : List Nat

def done (v : Value) (H : Heap) : Option OpRes := some ⟨v, H, [], false, []⟩

def desc (E : Env) (t : TypeId) : Option TypeDesc := E.P.underlying t
def sizeT (E : Env) (t : TypeId) : Option Nat := match E.P.info? t with | some i => some i.size | none => none
def bytesT (E : Env) (t : TypeId) : Nat := match E.P.info? t with | some i => i.bytes | none => 0
/-- Does a value hold no address of an object from number n on (depth f)? -/
def oldV (n : Nat) : Nat → Value → Bool
  | 0, _ => false
  | f + 1, v => match v with
    | .bool _ => true
    | .int .. => true
    | .string _ => true
    | .pointer none => true
    | .pointer (some a) => Nat.blt a.block n
    | .slice none .. => true
    | .slice (some a) _ _ => Nat.blt a.block n
    | .map none => true
    | .map (some i) => Nat.blt i n
    | .func _ a b => a.toList.all (oldV n f) && b.toList.all (oldV n f)
    | .nilFunc => true
    | .iface _ v => oldV n f v
    | .nilIface => true
    | .agg cs => cs.toList.all (oldV n f)
    | .tuple cs => cs.toList.all (oldV n f)
    | _ => false

def zeroT (E : Env) (t : TypeId) : Option Value :=
  match E.P.info? t with
  | some i => match i.zero with
    | some z => match oldV 0 4 z with
      | true => some z
      | false => none
    | none => none
  | none => none
def isAggT (E : Env) (t : TypeId) : Option Bool :=
  match E.P.underlying t with
  | some (.struct _) => some true
  | some (.array ..) => some true
  | some _ => some false
  | none => none
def sliceElem (E : Env) (t : TypeId) : Option TypeId := match E.P.underlying t with | some (.slice e) => some e | _ => none

/-- A pointer's object and place. -/
def ptr : Value → Option (Nat × Nat)
  | .pointer (some ⟨i, o, none⟩) => some (i, o)
  | _ => none

def loadO (E : Env) (H : Heap) (t : TypeId) (i o : Nat) : Option Value :=
  match H.get i with
  | .cells cs _ _ => match isAggT E t with
    | some true => match sizeT E t with
      | some n => match takeAt o n cs with
        | some r => some (.agg ⟨r⟩)
        | none => none
      | none => none
    | some false => cs[o]?
    | none => none
  | _ => none

def loadOp (E : Env) (H : Heap) (t : TypeId) (p : Value) : Option OpRes :=
  match ptr p with
  | some (i, o) => match loadO E H t i o with
    | some v => some ⟨v, H, [i], false, []⟩
    | none => none
  | none => none

def storeOp (E : Env) (H : Heap) (t : TypeId) (p v : Value) : Option OpRes :=
  match ptr p, sizeT E t with
  | some (i, o), some n => match H.get i with
    | .cells cs e b => match Nat.beq (cellsL v).length n with
      | true => match putAt o (cellsL v) cs with
        | some r => some ⟨undef, H.set i (.cells r e b), [], false, [i]⟩
        | none => none
      | false => none
    | _ => none
  | _, _ => none

/-- A new row of cells. -/
def newCells (H : Heap) (cs : List Value) (e : TypeId) (b : Bool) (mk : Addr → Value) : Option OpRes :=
  match cs.all cellOk with
  | true => done (mk ⟨H.n, 0, none⟩) (H.push (.cells cs e b))
  | false => none

def asPtr (a : Addr) : Value := .pointer (some a)

/-- The parts of a struct, laid into its zero value. -/
def fillL (place : Nat → Option (Nat × Nat)) (cs : List Value) : List (Nat × Value) → Option (List Value)
  | [] => some cs
  | (i, v) :: rest => match place i with
    | none => none
    | some (off, size) => match Nat.beq (cellsL v).length size with
      | true => match putAt off (cellsL v) cs with
        | some r => fillL place r rest
        | none => none
      | false => none

def fieldPlaceT (E : Env) (fs : Array Field) (i : Nat) : Option (Nat × Nat) :=
  match fs.toList[i]? with
  | some f => match sizeT E f.type with
    | some n => some (f.offset, n)
    | none => none
  | none => none

def placesT (E : Env) : List Field → Option (List (Nat × Nat))
  | [] => some []
  | f :: r => match sizeT E f.type, placesT E r with
    | some n, some l => some ((f.offset, n) :: l)
    | _, _ => none

def buildOp (E : Env) (H : Heap) (t : TypeId) (parts : List (Nat × Value)) : Option OpRes :=
  match zeroT E t, E.P.underlying t with
  | some z, some (.struct fs) => match placesT E fs.toList with
    | some pl => match fillL (fun i => pl[i]?) (cellsL z) parts with
      | some r => done (.agg ⟨r⟩) H
      | none => none
    | none => none
  | some z, some (.array _ e) => match sizeT E e with
    | some n => match fillL (fun i => some (i * n, n)) (cellsL z) parts with
      | some r => done (.agg ⟨r⟩) H
      | none => none
    | none => none
  | _, _ => none

/-- n times a list. -/
def timesL (z : List Value) : Nat → List Value
  | 0 => []
  | n + 1 => z ++ timesL z n

def buildSliceOp (E : Env) (H : Heap) (t : TypeId) (len : Nat) (parts : List (Nat × Value)) : Option OpRes :=
  match sliceElem E t with
  | some e => match sizeT E e, zeroT E e with
    | some n, some z => match Nat.ble (len * n) 16777216 && Nat.ble 1 n && Nat.beq (cellsL z).length n with
      | true => match fillL (fun i => some (i * n, n)) (timesL (cellsL z) len) parts with
        | some r => newCells H r e false fun a => .slice (some a) len len
        | none => none
      | false => none
    | _, _ => none
  | none => none

def makeSliceOp (E : Env) (H : Heap) (t : TypeId) (len cap : Value) : Option OpRes :=
  match sliceElem E t, len, cap with
  | some e, .int _ (.ofNat l), .int _ (.ofNat c) => match sizeT E e, zeroT E e with
    | some n, some z => match Nat.ble l c && Nat.ble (bytesT E e * c) 281474976710656 && Nat.ble c 281474976710656 && Nat.ble 1 n && Nat.beq (cellsL z).length n with
      | true => newCells H (timesL (cellsL z) c) e false fun a => .slice (some a) l c
      | false => none
    | _, _ => none
  | _, _, _ => none

def fieldAddrOp (E : Env) (H : Heap) (s : TypeId) (p : Value) (f : Nat) : Option OpRes :=
  match E.P.underlying s, ptr p with
  | some (.struct fs), some (i, o) => match fieldPlaceT E fs f with
    | some (off, n + 1) => done (.pointer (some ⟨i, o + off, none⟩)) H
    | _ => none
  | _, _ => none

/-- The index of an integer. -/
def asNat : Value → Option Nat
  | .int _ (.ofNat n) => some n
  | _ => none

def indexAddrOp (E : Env) (H : Heap) (t : TypeId) (x ix : Value) : Option OpRes :=
  match asNat ix, E.P.underlying t, x with
  | some k, some (.slice e), .slice (some ⟨i, o, _⟩) len _ => match Nat.blt k len, sizeT E e with
    | true, some n => done (.pointer (some ⟨i, o + k * n, none⟩)) H
    | _, _ => none
  | some k, some (.array len e), x => match ptr x with
    | some (i, o) => match Nat.blt k len, sizeT E e with
      | true, some n => done (.pointer (some ⟨i, o + k * n, none⟩)) H
      | _, _ => none
    | none => none
  | _, _, _ => none

/-- A part of a struct or an array. -/
def partO (E : Env) (t : TypeId) (cs : List Value) (o : Nat) : Option Value :=
  match isAggT E t with
  | some true => match sizeT E t with
    | some n => match takeAt o n cs with
      | some r => some (.agg ⟨r⟩)
      | none => none
    | none => none
  | some false => cs[o]?
  | none => none

def fieldOp (E : Env) (H : Heap) (t : TypeId) (x : Value) (f : Nat) : Option OpRes :=
  match E.P.underlying t, x with
  | some (.struct fs), .agg cs => match fs.toList[f]? with
    | some g => match partO E g.type cs.toList g.offset with
      | some v => done v H
      | none => none
    | none => none
  | _, _ => none

def indexOp (E : Env) (H : Heap) (t : TypeId) (x ix : Value) : Option OpRes :=
  match asNat ix, E.P.underlying t, x with
  | some k, some .string, .string s => match s.data.toList[k]? with
    | some b => done (.int .u8 (.ofNat b.toNat)) H
    | none => none
  | some k, some (.array len e), .agg cs => match Nat.blt k len, sizeT E e with
    | true, some n => match partO E e cs.toList (k * n) with
      | some v => done v H
      | none => none
    | _, _ => none
  | _, _, _ => none

/-- The bounds of a slice expression: low and high. -/
def boundOr (v : Option Value) (d : Nat) : Option Nat :=
  match v with
  | none => some d
  | some v => asNat v

def sliceOp (E : Env) (H : Heap) (t : TypeId) (x : Value) (lo hi mx : Option Value) : Option OpRes :=
  match mx with
  | some _ => none
  | none => match E.P.underlying t, x with
    | some .string, .string s => match boundOr lo 0, boundOr hi s.data.toList.length with
      | some l, some h => match Nat.ble l h && Nat.ble h s.data.toList.length with
        | true => done (.string ⟨⟨(s.data.toList.take h).drop l⟩⟩) H
        | false => none
      | _, _ => none
    | some (.slice e), .slice a len cap => match boundOr lo 0, boundOr hi len, sizeT E e with
      | some l, some h, some n =>
        match a with
        | none => match Nat.ble l h && Nat.ble h cap with
          | true => done (.slice none (h - l) (cap - l)) H
          | false => none
        | some ⟨i, o, none⟩ => match Nat.ble l h && Nat.ble h cap with
          | true => done (.slice (some (match Nat.beq cap l with | true => ⟨i, o, none⟩ | false => ⟨i, o + l * n, none⟩)) (h - l) (cap - l)) H
          | false => none
        | some ⟨i, o, some s⟩ => match Nat.ble l h && Nat.ble h len && Nat.beq s n with
          | true => done (.slice (some ⟨i, o + l * n, some s⟩) (h - l) (h - l)) H
          | false => none
      | _, _, _ => none
    | some (.array len e), x => match ptr x, boundOr lo 0, boundOr hi len, sizeT E e with
      | some (i, o), some l, some h, some n => match Nat.ble l h && Nat.ble h len with
        | true => done (.slice (some (match Nat.beq len l with | true => ⟨i, o, none⟩ | false => ⟨i, o + l * n, none⟩)) (h - l) (len - l)) H
        | false => none
      | _, _, _, _ => none
    | _, _ => none

/-- Integers: the operations. -/
def bytesLt : List UInt8 → List UInt8 → Bool
  | _, [] => false
  | [], _ :: _ => true
  | a :: x, b :: y => match Nat.blt a.toNat b.toNat with
    | true => true
    | false => match Nat.beq a.toNat b.toNat with
      | true => bytesLt x y
      | false => false

/-- An integer's bits, as a number. -/
def toU (k : IntKind) (n : Int) : Nat :=
  match k with
  | .i64 | .u64 => (n % 18446744073709551616).toNat
  | .i32 | .u32 => (n % 4294967296).toNat
  | .i16 | .u16 => (n % 65536).toNat
  | .i8 | .u8 => (n % 256).toNat

def onesU (k : IntKind) : Nat :=
  match k with
  | .i64 | .u64 => 18446744073709551615
  | .i32 | .u32 => 4294967295
  | .i16 | .u16 => 65535
  | .i8 | .u8 => 255

def intBin (op : BinOp) (k : IntKind) (a b : Int) : Option Value :=
  match op with
  | .add => some (.int k (wrapF k (a + b)))
  | .sub => some (.int k (wrapF k (a - b)))
  | .mul => some (.int k (wrapF k (a * b)))
  | .quo => match decide (b = 0) with | true => none | false => some (.int k (wrapF k (a.tdiv b)))
  | .rem => match decide (b = 0) with | true => none | false => some (.int k (a.tmod b))
  | .and => some (.int k (wrapF k (.ofNat (Nat.land (toU k a) (toU k b)))))
  | .or => some (.int k (wrapF k (.ofNat (Nat.lor (toU k a) (toU k b)))))
  | .xor => some (.int k (wrapF k (.ofNat (Nat.xor (toU k a) (toU k b)))))
  | .eql => some (.bool (decide (a = b)))
  | .neq => some (.bool (!decide (a = b)))
  | .lss => some (.bool (decide (a < b)))
  | .leq => some (.bool (decide (a ≤ b)))
  | .gtr => some (.bool (decide (b < a)))
  | .geq => some (.bool (decide (b ≤ a)))
  | _ => none

def shrF (a : Int) (n : Nat) : Int :=
  match a with
  | .ofNat m => .ofNat (Nat.div m (2 ^ n))
  | .negSucc m => (Int.negSucc m).fdiv (2 ^ n : Nat)

theorem shrF_eq (a : Int) (n : Nat) : shrF a n = a.fdiv (2 ^ n : Nat) := by
  cases a with
  | ofNat m =>
    cases m with
    | zero => exact congrArg Int.ofNat (Nat.zero_div _)
    | succ m => rfl
  | negSucc m => rfl

def shiftBin (op : BinOp) (k : IntKind) (a b : Int) : Option Value :=
  match b with
  | .ofNat n => match op with
    | .shl => some (.int k (wrapF k (a * (2 ^ (min n k.bits) : Nat))))
    | .shr => some (.int k (shrF a (min n k.bits)))
    | _ => none
  | _ => none

def strBin (op : BinOp) (a b : ByteArray) : Option Value :=
  match op with
  | .add => match Nat.ble (a.data.toList.length + b.data.toList.length) 9223372036854775807 with
    | true => some (.string ⟨⟨a.data.toList ++ b.data.toList⟩⟩)
    | false => none
  | .eql => some (.bool (decide (a.data.toList = b.data.toList)))
  | .neq => some (.bool (!decide (a.data.toList = b.data.toList)))
  | .lss => some (.bool (bytesLt a.data.toList b.data.toList))
  | .leq => some (.bool (bytesLt a.data.toList b.data.toList || decide (a.data.toList = b.data.toList)))
  | .gtr => some (.bool (!(bytesLt a.data.toList b.data.toList || decide (a.data.toList = b.data.toList))))
  | .geq => some (.bool (!bytesLt a.data.toList b.data.toList))
  | _ => none

/-- '==' of two values of a type that are no numbers and no strings. -/
def eqBin (E : Env) (t : TypeId) (x y : Value) : Option Bool :=
  match x, y with
  | .bool a, .bool b => match E.P.underlying t with | some .bool => some (a == b) | _ => none
  | .agg a, .agg b => match E.eqs t with
    | some ks => match kindsOk ks a.toList with
      | true => eqCells a.toList b.toList
      | false => none
    | none => none
  | .pointer none, .pointer b => match E.P.underlying t with | some (.pointer _) => some b.isNone | _ => none
  | .pointer (some _), .pointer none => match E.P.underlying t with | some (.pointer _) => some false | _ => none
  | .slice none _ _, .slice b _ _ => match E.P.underlying t with | some (.slice _) => some b.isNone | _ => none
  | .slice (some _) _ _, .slice none _ _ => match E.P.underlying t with | some (.slice _) => some false | _ => none
  | .nilFunc, .nilFunc => match E.P.underlying t with | some (.func ..) => some true | _ => none
  | .nilFunc, .func .. => match E.P.underlying t with | some (.func ..) => some false | _ => none
  | .func .., .nilFunc => match E.P.underlying t with | some (.func ..) => some false | _ => none
  | _, _ => none

def binOpOp (E : Env) (H : Heap) (op : BinOp) (t : TypeId) (x y : Value) : Option OpRes :=
  match x, y with
  | .int k a, .int k' b => match op with
    | .shl => match shiftBin op k a b with | some v => done v H | none => none
    | .shr => match shiftBin op k a b with | some v => done v H | none => none
    | _ => match decide (k = k') with
      | true => match intBin op k a b with | some v => done v H | none => none
      | false => none
  | .string a, .string b => match strBin op a b with | some v => done v H | none => none
  | x, y => match op with
    | .eql => match eqBin E t x y with | some b => done (.bool b) H | none => none
    | .neq => match eqBin E t x y with | some b => done (.bool (!b)) H | none => none
    | _ => none

def unOpOp (H : Heap) (op : UnOp) (x : Value) : Option OpRes :=
  match op, x with
  | .neg, .int k n => done (.int k (wrapF k (0 - n))) H
  | .not, .bool b => done (.bool !b) H
  | .xor, .int k n => done (.int k (wrapF k (.ofNat (Nat.xor (onesU k) (toU k n))))) H
  | _, _ => none

/-- The bytes of cells. -/
def byteCells : List Value → Option (List UInt8)
  | [] => some []
  | .int .u8 (.ofNat n) :: r => match byteCells r with
    | some l => some (UInt8.ofNat n :: l)
    | none => none
  | _ => none

def ofBytes (l : List UInt8) : List Value := l.map fun b => .int .u8 (.ofNat b.toNat)

def convertOp (E : Env) (H : Heap) (src dst : TypeId) (x : Value) : Option OpRes :=
  match E.P.underlying src, E.P.underlying dst, x with
  | some _, some (.int k), .int _ n => done (.int k (wrapF k n)) H
  | some _, some .string, .string s => done (.string s) H
  | some (.int _), some .string, .int _ n => done (.string (Utf8.encode n)) H
  | some _, some (.slice e), .string s => match E.P.underlying e with
    | some (.int .u8) => match Nat.ble s.data.toList.length 1073741824 with
      | true => newCells H (ofBytes s.data.toList) e true fun a => .slice (some ⟨a.block, a.off, some 1⟩) s.data.toList.length s.data.toList.length
      | false => none
    | _ => none
  | some (.slice e), some .string, .slice none _ _ => match E.P.underlying e with
    | some (.int .u8) => done (.string ⟨#[]⟩) H
    | _ => none
  | some (.slice e), some .string, .slice (some ⟨i, o, _⟩) len _ => match E.P.underlying e with
    | some (.int .u8) => match H.get i with
      | .cells cs _ _ => match takeAt o len cs with
        | some r => match byteCells r with
          | some l => some ⟨.string ⟨⟨l⟩⟩, H, [i], false, []⟩
          | none => none
        | none => none
      | _ => none
    | _ => none
  | _, _, _ => none

/-- The cells of a slice (or a string's bytes): n elements of a size. -/
def readRow (H : Heap) (size n : Nat) (x : Value) : Option (List Value × List Nat) :=
  match x with
  | .slice none _ _ => match Nat.beq n 0 with | true => some ([], []) | false => none
  | .slice (some ⟨i, o, _⟩) m _ => match Nat.beq n 0 with
    | true => some ([], [])
    | false => match Nat.ble n m with
      | true => match H.get i with
        | .cells cs _ _ => match takeAt o (n * size) cs with
          | some r => some (r, [i])
          | none => none
        | _ => none
      | false => none
  | .string s => match Nat.beq size 1 && Nat.ble n s.data.toList.length with
    | true => some (ofBytes (s.data.toList.take n), [])
    | false => none
  | _ => none

def lenV : Value → Option Nat
  | .slice _ n _ => some n
  | .string s => some s.data.toList.length
  | _ => none

/-- The new row of an append that grows: its slice's capacity is not known. -/
def grown (H : Heap) (e : TypeId) (size : Nat) (cells : List Value) (need : Nat) (rd : List Nat) : Option OpRes :=
  match cells.all cellOk with
  | true => some ⟨.slice (some ⟨H.n, 0, some size⟩) need need, H.push (.cells cells e true), rd, false, []⟩
  | false => none

/-- What an append appends: the cells, and how many elements they are. -/
def appended (E : Env) (H : Heap) (e : TypeId) (size : Nat) (xd : TypeDesc) (x : Value) : Option (List Value × Nat × List Nat) :=
  match xd with
  | .int _ => match x, zeroT E e with
    | .int _ (.ofNat n), some z => match Nat.ble n 1073741824 && Nat.ble (n * bytesT E e) 281474976710656 && Nat.beq (cellsL z).length size with
      | true => match (cellsL z).all cellOk with
        | true => some (timesL (cellsL z) n, n, [])
        | false => none
      | false => none
    | _, _ => none
  | _ => match lenV x with
    | some n => match readRow H size n x with
      | some (new, rd) => some (new, n, rd)
      | none => none
    | none => none

/-- An append whose cells are known. -/
def appendTo (E : Env) (H : Heap) (e : TypeId) (size : Nat) (s : Value) (new : List Value) (n : Nat) (rdx : List Nat) : Option OpRes :=
  match s with
  | .slice none len cap => match Nat.beq len 0 && Nat.beq cap 0 && Nat.ble ((2 * n + 768) * bytesT E e) 281474976710656 && Nat.ble n 1099511627776 with
    | true => match n with
      | 0 => some ⟨.slice none 0 0, H, rdx, false, []⟩
      | _ + 1 => grown H e size new n rdx
    | false => none
  | .slice (some ⟨i, o, sp⟩) len cap => match H.get i with
    | .cells cs ce cb => match takeAt o (len * size) cs, Nat.ble ((2 * (len + n) + 768) * bytesT E e) 281474976710656 && Nat.ble (len + n) 1099511627776 with
      | some old, true => match sp with
        | none => match Nat.ble (len + n) cap with
          | true => match putAt (o + len * size) new cs with
            | some r => some ⟨.slice (some ⟨i, o, none⟩) (len + n) cap, H.set i (.cells r ce cb), i :: rdx, false, [i]⟩
            | none => none
          | false => match Nat.ble len cap with
            | true => grown H e size (old ++ new) (len + n) (i :: rdx)
            | false => none
        | some sz => match n with
          | 0 => some ⟨.slice (some ⟨i, o, some sz⟩) len len, H, i :: rdx, false, []⟩
          | _ + 1 => match cb && (old ++ new).all cellOk && Nat.beq sz size with
            | true => some ⟨.slice (some ⟨H.n, 0, some size⟩) (len + n) (len + n), (H.set i .dead).push (.cells (old ++ new) e true), i :: rdx, false, [i]⟩
            | false => none
      | _, _ => none
    | _ => none
  | _ => none

/-- An append. -/
def appendOp (E : Env) (H : Heap) (argTypes : List TypeId) (s x : Value) : Option OpRes :=
  match argTypes with
  | st :: xt :: _ => match sliceElem E st, E.P.underlying xt with
    | some e, some xd => match sizeT E e, zeroT E e with
      | some (size + 1), some z => match Nat.beq (cellsL z).length (size + 1), appended E H e (size + 1) xd x with
        | true, some (new, n, rdx) => appendTo E H e (size + 1) s new n rdx
        | _, _ => none
      | _, _ => none
    | _, _ => none
  | _ => none

/-- A copy. -/
def copyOp (E : Env) (H : Heap) (argTypes : List TypeId) (d s : Value) : Option OpRes :=
  match argTypes with
  | dt :: _ => match sliceElem E dt with
    | some e => match sizeT E e, d, lenV s with
      | some (size + 1), .slice base dLen _, some m => match readRow H (size + 1) (min m dLen) s, base with
        | some _, none => match Nat.beq dLen 0 with
          | true => done (.int .i64 0) H
          | false => none
        | some (new, rdx), some ⟨i, o, _⟩ => match H.get i with
          | .cells cs ce b => match putAt o new cs with
            | some r => some ⟨.int .i64 (.ofNat (min m dLen)), H.set i (.cells r ce b), i :: rdx, false, [i]⟩
            | none => none
          | _ => none
        | none, _ => none
      | _, _, _ => none
    | none => none
  | _ => none

def lenOp (E : Env) (H : Heap) (argTypes : List TypeId) (x : Value) : Option OpRes :=
  match argTypes with
  | t :: _ => match E.P.underlying t, x with
    | some .string, .string s => done (.int .i64 (.ofNat s.data.toList.length)) H
    | some (.array n _), _ => done (.int .i64 (.ofNat n)) H
    | some (.slice _), .slice _ n _ => done (.int .i64 (.ofNat n)) H
    | some (.map ..), .map none => done (.int .i64 0) H
    | some (.map ..), .map (some i) => match H.get i with
      | .map es => some ⟨.int .i64 (.ofNat es.length), H, [i], false, []⟩
      | _ => none
    | _, _ => none
  | _ => none

def capOp (E : Env) (H : Heap) (argTypes : List TypeId) (x : Value) : Option OpRes :=
  match argTypes with
  | t :: _ => match E.P.underlying t, x with
    | some (.slice _), .slice none _ n => done (.int .i64 (.ofNat n)) H
    | some (.slice _), .slice (some ⟨_, _, none⟩) _ n => done (.int .i64 (.ofNat n)) H
    | _, _ => none
  | _ => none

def pickInt (mx : Bool) : Value → List Value → Option Value
  | v, [] => some v
  | .int k a, .int _ b :: r => pickInt mx (.int k (match mx with | true => (match decide (a < b) with | true => b | false => a) | false => (match decide (b < a) with | true => b | false => a))) r
  | _, _ => none

/-- The key of a map that is found by sight: equal or not. -/
def sameKey : Value → Value → Option Bool
  | .int j a, .int k b => match decide (j = k) with | true => some (decide (a = b)) | false => none
  | .string a, .string b => some (decide (a.data.toList = b.data.toList))
  | .bool a, .bool b => some (a == b)
  | _, _ => none

def findK (k : Value) : List (Value × Value) → Option (Option Value)
  | [] => some none
  | (q, v) :: r => match sameKey k q with
    | some true => some (some v)
    | some false => findK k r
    | none => none

def setK (k v : Value) : List (Value × Value) → Option (List (Value × Value))
  | [] => some [(k, v)]
  | (q, u) :: r => match sameKey k q with
    | some true => some ((q, v) :: r)
    | some false => match setK k v r with
      | some r' => some ((q, u) :: r')
      | none => none
    | none => none

/-- A key of a type whose keys are found by sight. -/
def keyOk (E : Env) (t : TypeId) (k : Value) : Bool :=
  match E.P.underlying t, k with
  | some (.int _), .int .. => true
  | some .string, .string _ => true
  | some .bool, .bool _ => true
  | _, _ => false

/-- A looked-up value, with or without the word whether it was there. -/
def okV (ok : Bool) (v : Value) (b : Bool) : Value :=
  match ok with
  | true => .tuple #[v, .bool b]
  | false => v

def entriesOf (H : Heap) (x : Value) : Option (List (Value × Value) × List Nat) :=
  match x with
  | .map none => some ([], [])
  | .map (some i) => match H.get i with
    | .map es => some (es, [i])
    | _ => none
  | _ => none

def lookupOp (E : Env) (H : Heap) (t : TypeId) (x k : Value) (ok : Bool) : Option OpRes :=
  match E.P.underlying t with
  | some (.map kt et) => match keyOk E kt k, zeroT E et, entriesOf H x with
    | true, some z, some (es, rd) => match findK k es with
      | some (some v) => some ⟨okV ok v true, H, rd, false, []⟩
      | some none => some ⟨okV ok z false, H, rd, false, []⟩
      | none => none
    | _, _, _ => none
  | _ => none

def mapUpdateOp (E : Env) (H : Heap) (t : TypeId) (m k v : Value) : Option OpRes :=
  match E.P.underlying t, m with
  | some (.map kt _), .map (some i) => match keyOk E kt k, H.get i with
    | true, .map es => match setK k v es with
      | some es' => some ⟨undef, H.set i (.map es'), [i], false, [i]⟩
      | none => none
    | _, _ => none
  | _, _ => none

def rangeOp (E : Env) (H : Heap) (t : TypeId) (x : Value) : Option OpRes :=
  match E.P.underlying t, x with
  | some .string, .string s => done (.pointer (some ⟨H.n, 0, none⟩)) (H.push (.iter s 0))
  | _, _ => none

def nextOp (H : Heap) (it : Value) (isString : Bool) : Option OpRes :=
  match it, isString with
  | .pointer (some ⟨i, 0, none⟩), true => match H.get i with
    | .iter s pos => match Nat.blt pos s.data.toList.length with
      | true => match Utf8.decode s pos with
        | (c, width) => some ⟨.tuple #[.bool true, .int .i64 (.ofNat pos), .int .i32 (.ofNat c)], H.set i (.iter s (pos + width)), [i], false, [i]⟩
      | false => some ⟨.tuple #[.bool false], H, [i], false, []⟩
    | _ => none
  | _, _ => none

/-- The function behind a method of an interface value, and the receiver. -/
def methodF (E : Env) (t : TypeId) (name : String) : Option FuncId :=
  match E.P.info? t with
  | some i => match i.methods.toList.find? (·.name == name) with
    | some m => match m.path.toList, m.func with
      | [], some (f, pr) => match E.P.underlying t, pr with
        | some (.pointer _), true => some f
        | some (.pointer _), false => none
        | some _, false => some f
        | _, _ => none
      | _, _ => none
    | none => none
  | none => none

/-- The function that a call enters, and its arguments. -/
def target (E : Env) (t : TT) (c : Call) : Option (FuncId × List Value) :=
  match c.callee with
  | .value f => match eval t f with
    | .func (.func g) first captured => some (g, first.toList ++ ((c.args.toList.map (eval t)) ++ captured.toList))
    | _ => none
  | .invoke r name => match eval t r with
    | .iface ty v => match methodF E ty name with
      | some f => some (f, v :: c.args.toList.map (eval t))
      | none => none
    | _ => none
  | .builtin _ => none

def builtinOp (E : Env) (H : Heap) (b : Builtin) (ts : List TypeId) (args : List Value) : Option OpRes :=
  match b, args with
  | .append, s :: x :: _ => appendOp E H ts s x
  | .copy, d :: s :: _ => copyOp E H ts d s
  | .len, x :: _ => lenOp E H ts x
  | .cap, x :: _ => capOp E H ts x
  | .max, x :: r => match pickInt true x r with | some v => done v H | none => none
  | .min, x :: r => match pickInt false x r with | some v => done v H | none => none
  | _, _ => none

def mapOpt {α β : Type} (f : α → β) : Option α → Option β
  | some a => some (f a)
  | none => none

def step (E : Env) (call : FuncId → List Value → Heap → Option CallRes) (t : TT) (H : Heap) (o : Oper) : Option OpRes :=
  match o.op with
  | .move x => done (eval t x) H
  | .assign x => done (eval t x) H
  | .pick c a b => match eval t c with
    | .bool true => done (eval t a) H
    | .bool false => done (eval t b) H
    | _ => none
  | .alloc e => match zeroT E e with
    | some z => newCells H (cellsL z) e false asPtr
    | none => none
  | .box e x => newCells H (cellsL (eval t x)) e false asPtr
  | .build ty parts => buildOp E H ty (parts.toList.map fun p => (p.1, eval t p.2))
  | .buildSlice ty len parts => buildSliceOp E H ty len (parts.toList.map fun p => (p.1, eval t p.2))
  | .load ty a => loadOp E H ty (eval t a)
  | .store ty a x => storeOp E H ty (eval t a) (eval t x)
  | .nilCheck x => match eval t x with
    | .pointer (some a) => done (.pointer (some a)) H
    | .func (.func g) first captured => done (.func (.func g) first captured) H
    | .func (.method m) first captured => match first.toList with
      | .iface ty _ :: _ => match methodF E ty m with
        | some _ => done (.func (.method m) first captured) H
        | none => none
      | _ => none
    | .iface ty v => done (.iface ty v) H
    | _ => none
  | .binOp op ty x y _ => binOpOp E H op ty (eval t x) (eval t y)
  | .unOp op _ x => unOpOp H op (eval t x)
  | .convert src dst x => convertOp E H src dst (eval t x)
  | .makeInterface ty x => match E.P.underlying ty with
    | some (.interface _) => none
    | some _ => done (.iface ty (eval t x)) H
    | none => none
  | .makeFunc fn first captured => match fn with
    | .func g => done (.func (.func g) ⟨first.toList.map (eval t)⟩ ⟨captured.toList.map (eval t)⟩) H
    | .method m => done (.func (.method m) ⟨first.toList.map (eval t)⟩ ⟨captured.toList.map (eval t)⟩) H
    | _ => none
  | .makeMap _ r => match r with
    | none => done (.map (some H.n)) (H.push (.map []))
    | some _ => none
  | .makeSlice ty l c => makeSliceOp E H ty (eval t l) (eval t c)
  | .slice ty x lo hi mx => sliceOp E H ty (eval t x) (mapOpt (eval t) lo) (mapOpt (eval t) hi) (mapOpt (eval t) mx)
  | .fieldAddr s x f => fieldAddrOp E H s (eval t x) f
  | .field ty x f => fieldOp E H ty (eval t x) f
  | .indexAddr ty x ix => indexAddrOp E H ty (eval t x) (eval t ix)
  | .index ty x ix => indexOp E H ty (eval t x) (eval t ix)
  | .lookup ty x ix ok => lookupOp E H ty (eval t x) (eval t ix) ok
  | .mapUpdate ty m k x => mapUpdateOp E H ty (eval t m) (eval t k) (eval t x)
  | .insert ty m k x => mapUpdateOp E H ty (eval t m) (eval t k) (eval t x)
  | .range ty x => rangeOp E H ty (eval t x)
  | .next it s => nextOp H (eval t it) s
  | .extract x k => match eval t x with
    | .tuple vs => match vs.toList[k]? with
      | some v => done v H
      | none => none
    | _ => none
  | .call c => match c.callee with
    | .builtin b => builtinOp E H b c.argTypes.toList (c.args.toList.map (eval t))
    | _ => match target E t c with
      | some (f, args) => match call f args H with
        | some r => some ⟨r.v, r.H, [], true, r.dirty⟩
        | none => none
      | none => none
  | _ => none

/-- Is an operation carried out, by its guard? -/
def wants (t : TT) (ops : List Oper) (o : Oper) : Bool :=
  match o.guard with
  | none => true
  | some (j, want) => match ops[j]? with
    | some g => match g.dst with
      | some d => match t.get d with
        | .bool b => b == want
        | _ => false
      | none => false
    | none => false

inductive AExit where
  | normal
  | exit (id : Nat)
  | ret

structure ARes where
  e : AExit
  t : TT
  H : Heap
  dirty : List Nat

/-- The objects older than the call that have been written. -/
def soil (base : Nat) : List Nat → List Nat → List Nat
  | [], d => d
  | x :: xs, d => match Nat.blt x base with
    | false => soil base xs d
    | true => match d.any (Nat.beq x) with
      | true => soil base xs d
      | false => soil base xs (x :: d)

/-- The operations of a region, one after another. -/
def runOps (E : Env) (call : FuncId → List Value → Heap → Option CallRes) (base : Nat) (all : List Oper) : List Oper → TT → Heap → List Nat → Option ARes
  | [], t, H, d => some ⟨.normal, t, H, d⟩
  | o :: rest, t, H, d => match wants t all o with
    | false => runOps E call base all rest (t.put o.dst undef) H d
    | true => match step E call t H o with
      | some r => runOps E call base all rest (t.put o.dst r.v) r.H (soil base r.wr d)
      | none => none

/-- What an operation touched. -/
structure Foot where
  rd : List Nat
  rdAll : Bool
  wr : List Nat
  n : Nat

/-- May two operations of a region be carried out in either order? -/
def Foot.clear (a b : Foot) : Bool :=
  match a.wr with
  | [] => true
  | l => !b.rdAll && l.all fun x => !hasN b.rd x && !hasN b.wr x

def Foot.apart (a b : Foot) : Bool := a.clear b && b.clear a

/-- What one operation makes, another one does not write. -/
def Foot.unmade (a b : Foot) : Bool := !hasN b.wr a.n

/-- The kinds of operations: from their operands alone · reading objects · making an object · all else. -/
inductive Cls where
  | pure
  | look
  | make
  | heavy

def cls (E : Env) : Op → Cls
  | .move _ | .assign _ | .pick .. | .build .. | .nilCheck _ | .binOp .. | .unOp .. | .makeInterface .. | .makeFunc .. | .slice .. | .fieldAddr .. | .field ..
  | .indexAddr .. | .index .. | .extract .. => .pure
  | .load .. | .lookup .. => .look
  | .alloc _ | .box .. | .buildSlice .. | .makeSlice .. | .makeMap .. | .range .. => .make
  | .convert src dst _ => match E.P.underlying src, E.P.underlying dst with
    | some _, some (.slice _) => .make
    | some (.slice _), some .string => .look
    | _, _ => .pure
  | .call c => match c.callee with
    | .builtin b => match b with
      | .len => .look
      | .cap | .max | .min => .pure
      | _ => .heavy
    | _ => .heavy
  | _ => .heavy

def isAlloc : Op → Bool
  | .alloc _ => true
  | _ => false

/-- The order in which a region that draws is carried out here: the 'alloc's first, then as the text has it. -/
def order (ops : Array Oper) : List Nat :=
  (List.range ops.size).filter (fun i => match ops[i]? with | some o => isAlloc o.op | none => false) ++
  (List.range ops.size).filter (fun i => match ops[i]? with | some o => !isAlloc o.op | none => false)

def bef (b : Array Nat) (i j : Nat) : Bool := (b.getD j 0).testBit i

/-- Two operations of which no edge keeps the order, the first one carried out first here. -/
def pairOk (E : Env) (ops : Array Oper) (b : Array Nat) (i j : Nat) : Bool :=
  match ops[i]?, ops[j]? with
  | some x, some y => bef b i j || (!bef b j i && Oper.apart ops x y && Oper.apart ops y x && (match cls E x.op, cls E y.op with
    | .heavy, .heavy => false
    | .heavy, .make => false
    | _, _ => true))
  | _, _ => false

def pairsOk (E : Env) (ops : Array Oper) (b : Array Nat) : List Nat → Bool
  | [] => true
  | i :: r => (r.all fun j => pairOk E ops b i j) && pairsOk E ops b r

/-- In every order that the edges allow each operation comes: 'l' is one such order. -/
def completeGo (md : Region.Mode) (ops : Array Oper) : List Nat → Nat → Bool
  | [], m => (List.range ops.size).all fun i => m.testBit i
  | i :: l, m => (match ops[i]? with | some o => o.after.toList.all fun e => !Region.binds md e || m.testBit e.on | none => false) && completeGo md ops l (m ||| 2 ^ i)

def complete (ops : Array Oper) : Bool :=
  match Region.departs ops with
  | true => completeGo .text ops (List.range ops.size) 0 && completeGo .gc ops (Region.linearise .gc ops 0) 0
  | false => true

def backEdges (ops : Array Oper) : Bool :=
  completeGo .any ops (List.range ops.size) 0

/-- The pairs whose footprints must be held against each other, by their places in the order. -/
def duel (E : Env) (ops : Array Oper) (b : Array Nat) (i j : Nat) : Bool :=
  match ops[i]?, ops[j]? with
  | some x, some y => !bef b i j && (match cls E x.op, cls E y.op with
    | .heavy, .look => true
    | .look, .heavy => true
    | _, _ => false)
  | _, _ => false

def drawOk (E : Env) (ops : Array Oper) : Bool :=
  pairsOk E ops (Region.before ops) (order ops) && backEdges ops && complete ops

/-- A pair of which the first one makes an object, and the second one may write. -/
def makesFirst (E : Env) (ops : Array Oper) (b : Array Nat) (i j : Nat) : Bool :=
  match ops[i]?, ops[j]? with
  | some x, some y => !bef b i j && (match cls E x.op, cls E y.op with
    | .make, .heavy => true
    | _, _ => false)
  | _, _ => false

def duelsOk (E : Env) (ops : Array Oper) (b : Array Nat) (f : Foot) (i : Nat) : List (Nat × Foot) → Bool
  | [] => true
  | (j, g) :: r => match duel E ops b i j with
    | true => match f.apart g with
      | true => duelsOk E ops b f i r
      | false => false
    | false => match makesFirst E ops b i j with
      | true => match f.unmade g with
        | true => duelsOk E ops b f i r
        | false => false
      | false => duelsOk E ops b f i r

/-- The operations in that order; with the footprints held against each other. -/
def runFoot (E : Env) (call : FuncId → List Value → Heap → Option CallRes) (base : Nat) (ops : Array Oper) : List Nat → TT → Heap → List Nat → Option (ARes × List (Nat × Foot))
  | [], t, H, d => some (⟨.normal, t, H, d⟩, [])
  | i :: rest, t, H, d => match ops[i]? with
    | none => none
    | some o => match wants t ops.toList o with
      | false => match runFoot E call base ops rest (t.put o.dst undef) H d with
        | some (r, fs) => some (r, (i, ⟨[], false, [], H.n⟩) :: fs)
        | none => none
      | true => match step E call t H o with
        | some r => match runFoot E call base ops rest (t.put o.dst r.v) r.H (soil base r.wr d) with
          | some (z, fs) => match duelsOk E ops (Region.before ops) ⟨r.rd, r.rdAll, r.wr, H.n⟩ i fs with
            | true => some (z, (i, ⟨r.rd, r.rdAll, r.wr, H.n⟩) :: fs)
            | false => none
          | none => none
        | none => none

def runDrawn (E : Env) (call : FuncId → List Value → Heap → Option CallRes) (base : Nat) (ops : Array Oper) (t : TT) (H : Heap) (d : List Nat) : Option ARes :=
  match drawOk E ops with
  | true => match runFoot E call base ops (order ops) t H d with
    | some (r, _) => some r
    | none => none
  | false => none

/-- One level of the evaluator. -/
def execF (E : Env) (call : FuncId → List Value → Heap → Option CallRes) (ih : Nat → Code → TT → Heap → List Nat → Option ARes) (base : Nat) (c : Code) (t : TT) (H : Heap) (d : List Nat) : Option ARes :=
  match c with
  | .skip => some ⟨.normal, t, H, d⟩
  | .label _ => some ⟨.normal, t, H, d⟩
  | .region _ ops draw => match draw with
    | false => runOps E call base ops.toList ops.toList t H d
    | true => runDrawn E call base ops t H d
  | .seq a b => match ih base a t H d with
    | some ⟨.normal, t, H, d⟩ => ih base b t H d
    | r => r
  | .cond x a b => match eval t x with
    | .bool true => ih base a t H d
    | .bool false => ih base b t H d
    | _ => none
  | .block id body => match ih base body t H d with
    | some ⟨.exit k, t, H, d⟩ => match Nat.beq k id with
      | true => some ⟨.normal, t, H, d⟩
      | false => some ⟨.exit k, t, H, d⟩
    | r => r
  | .loop body => match ih base body t H d with
    | some ⟨.normal, t, H, d⟩ => ih base (.loop body) t H d
    | r => r
  | .scope body => ih base body t H d
  | .exit id => some ⟨.exit id, t, H, d⟩
  | .ret => some ⟨.ret, t, H, d⟩
  | _ => none

/-- The results of a call. -/
def resultVals (E : Env) (t : TT) (H : Heap) : List ResultVar → Option (List Value)
  | [] => some []
  | .tmp k :: r => match resultVals E t H r with
    | some l => some (t.get k :: l)
    | none => none
  | .cell a ty :: r => match ptr (t.get a) with
    | some (i, o) => match loadO E H ty i o, resultVals E t H r with
      | some v, some l => some (v :: l)
      | _, _ => none
    | none => none

def packed : List Value → Value
  | [v] => v
  | l => .tuple ⟨l⟩

/-- The result and the heap behind a call: nothing but old objects is kept where nothing new is reached. -/
def kept (H : Heap) (v : Value) (Hc : Heap) (d : List Nat) : CallRes :=
  match d with
  | _ :: _ => ⟨v, Hc, d⟩
  | [] => match oldV H.n 4 v with
    | true => ⟨v, H, []⟩
    | false => ⟨v, Hc, []⟩

/-- An operand that the evaluator serves. -/
def operandOk (g : Nat) : Operand → Bool
  | .tmp t => Nat.blt t 1048576
  | .const v => oldV 0 4 v
  | .global k => Nat.blt k g
  | .func _ => true

def resultOk (n : Nat) : ResultVar → Bool
  | .tmp t => Nat.blt t n
  | .cell t _ => Nat.blt t n

def codeOk (g n : Nat) : Code → Bool
  | .region _ ops _ => ops.toList.all fun o => (match o.dst with | some d => Nat.blt d n | none => true) && o.op.operands.toList.all (operandOk g)
  | .seq a b => codeOk g n a && codeOk g n b
  | .cond c a b => operandOk g c && codeOk g n a && codeOk g n b
  | .block _ b => codeOk g n b
  | .loop b => codeOk g n b
  | .scope b => codeOk g n b
  | _ => true

/-- A function that the evaluator may enter: with a body. -/
def bodyOf (E : Env) (f : FuncId) : Option (Func × Code) :=
  match E.P.funcs[f]? with
  | some fn => match fn.body with
    | some c => match codeOk E.P.globals.size fn.ntmps c && Nat.blt fn.ntmps 1048576 && fn.results.toList.all (resultOk fn.ntmps) && fn.name != "runtime.NumGoroutine" with
      | true => some (fn, c)
      | false => none
    | none => none
  | none => none

/-- What is told of a call beforehand. -/
def told (E : Env) (f : FuncId) (args : List Value) (H : Heap) : Option CallRes :=
  match E.ext f with
  | some g => g args H
  | none => none

def callF (E : Env) (exec : Nat → Code → TT → Heap → List Nat → Option ARes) (f : FuncId) (args : List Value) (H : Heap) : Option CallRes :=
  match told E f args H with
  | some r => some r
  | none => match bodyOf E f with
    | some (fn, c) => match Nat.ble args.length fn.ntmps with
      | true => match exec H.n c (TT.ofArgs 0 args .leaf) H [] with
        | some ⟨e, t, Hc, d⟩ => match e with
          | .exit _ => none
          | _ => match resultVals E t Hc fn.results.toList with
            | some vs => some (kept H (packed vs) Hc d)
            | none => none
        | none => none
      | false => none
    | none => none

def exec (E : Env) (n : Nat) : Nat → Code → TT → Heap → List Nat → Option ARes :=
  Nat.rec (fun _ _ _ _ _ => none) (fun _ ih => execF E (callF E ih) ih) n

def call (E : Env) (n : Nat) : FuncId → List Value → Heap → Option CallRes := callF E (exec E n)

end
end Go.AM

namespace Go.AM

/-! Lists, pointwise. -/

def Pw {α β : Type} (R : α → β → Prop) (l : List α) (l' : List β) : Prop :=
  l.length = l'.length ∧ ∀ (k : Nat) v v', l[k]? = some v → l'[k]? = some v' → R v v'

namespace Pw
variable {α β : Type} {R S : α → β → Prop}

theorem nil : Pw R [] [] := ⟨rfl, by simp⟩

theorem cons {v v'} {l : List α} {l' : List β} (h : R v v') (t : Pw R l l') : Pw R (v :: l) (v' :: l') := by
  refine ⟨by simp [t.1], fun k a a' ha ha' => ?_⟩
  cases k with
  | zero => simp at ha ha'; subst ha; subst ha'; exact h
  | succ k => simp at ha ha'; exact t.2 k a a' ha ha'

theorem head {v v'} {l : List α} {l' : List β} (h : Pw R (v :: l) (v' :: l')) : R v v' := h.2 0 v v' rfl rfl

theorem tail {v v'} {l : List α} {l' : List β} (h : Pw R (v :: l) (v' :: l')) : Pw R l l' :=
  ⟨by have := h.1; simpa using this, fun k a a' ha ha' => h.2 (k + 1) a a' (by simpa using ha) (by simpa using ha')⟩

theorem cons_left {v} {l : List α} {m : List β} (h : Pw R (v :: l) m) : ∃ v' l', m = v' :: l' ∧ R v v' ∧ Pw R l l' := by
  cases m with
  | nil => have := h.1; simp at this
  | cons v' l' => exact ⟨v', l', rfl, h.head, h.tail⟩

theorem nil_left {m : List β} (h : Pw R [] m) : m = [] := by
  have := h.1
  cases m with
  | nil => rfl
  | cons _ _ => simp at this

theorem mono {l : List α} {l' : List β} (h : Pw R l l') (hs : ∀ a b, R a b → S a b) : Pw S l l' :=
  ⟨h.1, fun k v v' a b => hs _ _ (h.2 k v v' a b)⟩

theorem get {l : List α} {l' : List β} (h : Pw R l l') {k : Nat} {v : α} (hv : l[k]? = some v) : ∃ v', l'[k]? = some v' ∧ R v v' := by
  have hk : k < l.length := by
    rcases Nat.lt_or_ge k l.length with h | h
    · exact h
    · simp [List.getElem?_eq_none h] at hv
  have hk' : k < l'.length := h.1 ▸ hk
  exact ⟨l'[k], by simp [hk'], h.2 k v _ hv (by simp [hk'])⟩

theorem append {l m : List α} {l' m' : List β} (h : Pw R l l') (g : Pw R m m') : Pw R (l ++ m) (l' ++ m') := by
  refine ⟨by simp [h.1, g.1], fun k v v' a b => ?_⟩
  by_cases hk : k < l.length
  · rw [List.getElem?_append_left hk] at a
    rw [List.getElem?_append_left (h.1 ▸ hk)] at b
    exact h.2 k v v' a b
  · rw [List.getElem?_append_right (by omega)] at a
    rw [List.getElem?_append_right (by have := h.1; omega), ← h.1] at b
    exact g.2 _ v v' a b

theorem drop {l : List α} {l' : List β} (h : Pw R l l') (n : Nat) : Pw R (l.drop n) (l'.drop n) :=
  ⟨by simp [h.1], fun k v v' a b => h.2 (n + k) v v' (by simpa using a) (by simpa using b)⟩

theorem take {l : List α} {l' : List β} (h : Pw R l l') (n : Nat) : Pw R (l.take n) (l'.take n) := by
  refine ⟨by simp [h.1], fun k v v' a b => ?_⟩
  rw [List.getElem?_take] at a b
  split at a
  · rename_i hk; simp [hk] at b; exact h.2 k v v' a b
  · simp at a

theorem map {γ δ : Type} {T : γ → δ → Prop} {f : α → γ} {g : β → δ} {l : List α} {l' : List β} (h : Pw R l l') (hf : ∀ a b, R a b → T (f a) (g b)) : Pw T (l.map f) (l'.map g) := by
  refine ⟨by simp [h.1], fun k v v' a b => ?_⟩
  simp only [List.getElem?_map, Option.map_eq_some_iff] at a b
  obtain ⟨x, hx, rfl⟩ := a
  obtain ⟨y, hy, rfl⟩ := b
  exact hf _ _ (h.2 k x y hx hy)

theorem map_same {γ : Type} {f : γ → α} {g : γ → β} (l : List γ) (hf : ∀ x ∈ l, R (f x) (g x)) : Pw R (l.map f) (l.map g) := by
  refine ⟨by simp, fun k v v' a b => ?_⟩
  simp only [List.getElem?_map, Option.map_eq_some_iff] at a b
  obtain ⟨x, hx, rfl⟩ := a
  obtain ⟨y, hy, rfl⟩ := b
  rw [hx] at hy
  cases hy
  exact hf x (List.mem_of_getElem? hx)

theorem refl_of {R : α → α → Prop} (l : List α) (h : ∀ x ∈ l, R x x) : Pw R l l :=
  ⟨rfl, fun k v v' a b => by rw [a] at b; cases b; exact h v (List.mem_of_getElem? a)⟩
end Pw

/-! Values. -/

/-- Where an object lies: its block, its first cell; of an open one: the end of the cells that may be appended to. -/
structure Loc where
  b : Nat
  base : Nat
  fin : Nat

abbrev Phi := Nat → Option Loc

def atomV : Value → Bool
  | .bool _ | .int .. | .float .. | .complex .. | .string _ | .pointer none | .slice none .. | .map none | .chan none | .nilFunc | .nilIface => true
  | _ => false

inductive VR (φ : Phi) : Value → Value → Prop
  | atom {v : Value} : atomV v = true → VR φ v v
  | ptr {i o : Nat} {L : Loc} : φ i = some L → VR φ (.pointer (some ⟨i, o, none⟩)) (.pointer (some ⟨L.b, L.base + o, none⟩))
  | slice {i o n c : Nat} {L : Loc} : φ i = some L → VR φ (.slice (some ⟨i, o, none⟩) n c) (.slice (some ⟨L.b, L.base + o, none⟩) n c)
  | opn {i o s n n' c : Nat} {a : Addr} {L : Loc} : φ i = some L → n ≤ c → a.spot = none → (c = 0 ∨ (a = ⟨L.b, L.base + o, none⟩ ∧ L.base + o + c * s = L.fin)) →
      VR φ (.slice (some ⟨i, o, some s⟩) n n') (.slice (some a) n c)
  | map {i : Nat} {L : Loc} : φ i = some L → VR φ (.map (some i)) (.map (some L.b))
  | func {fn : Fn} {a b a' b' : Array Value} : a.toList.length = a'.toList.length → b.toList.length = b'.toList.length →
      (∀ (k : Nat) v v', a.toList[k]? = some v → a'.toList[k]? = some v' → VR φ v v') → (∀ (k : Nat) v v', b.toList[k]? = some v → b'.toList[k]? = some v' → VR φ v v') → VR φ (.func fn a b) (.func fn a' b')
  | iface {t : TypeId} {v v' : Value} : VR φ v v' → VR φ (.iface t v) (.iface t v')
  | agg {cs cs' : Array Value} : cs.toList.length = cs'.toList.length → (∀ (k : Nat) v v', cs.toList[k]? = some v → cs'.toList[k]? = some v' → VR φ v v') → VR φ (.agg cs) (.agg cs')
  | tuple {cs cs' : Array Value} : cs.toList.length = cs'.toList.length → (∀ (k : Nat) v v', cs.toList[k]? = some v → cs'.toList[k]? = some v' → VR φ v v') → VR φ (.tuple cs) (.tuple cs')

abbrev VRs (φ : Phi) := Pw (VR φ)

def Ext (φ φ' : Phi) : Prop := ∀ i L, φ i = some L → φ' i = some L

theorem Ext.refl (φ : Phi) : Ext φ φ := fun _ _ h => h
theorem Ext.trans {φ₁ φ₂ φ₃ : Phi} (h : Ext φ₁ φ₂) (g : Ext φ₂ φ₃) : Ext φ₁ φ₃ := fun i L e => g i L (h i L e)

theorem VR.mono {φ φ' : Phi} (h : Ext φ φ') {v v' : Value} (r : VR φ v v') : VR φ' v v' := by
  induction r with
  | atom h => exact .atom h
  | ptr e => exact .ptr (h _ _ e)
  | slice e => exact .slice (h _ _ e)
  | opn e a b c => exact .opn (h _ _ e) a b c
  | map e => exact .map (h _ _ e)
  | func l m _ _ ih ih' => exact .func l m ih ih'
  | iface _ ih => exact .iface ih
  | agg l _ ih => exact .agg l ih
  | tuple l _ ih => exact .tuple l ih

theorem VRs.mono {φ φ' : Phi} (h : Ext φ φ') {l l' : List Value} (r : VRs φ l l') : VRs φ' l l' := Pw.mono r fun _ _ => VR.mono h

theorem VR.undef {φ : Phi} : VR φ undef undef := .tuple rfl (by simp)

theorem VR.int_inv {φ : Phi} {k : IntKind} {n : Int} {v' : Value} (r : VR φ (.int k n) v') : v' = .int k n := by cases r; rfl
theorem VR.bool_inv {φ : Phi} {b : Bool} {v' : Value} (r : VR φ (.bool b) v') : v' = .bool b := by cases r; rfl
theorem VR.string_inv {φ : Phi} {s : ByteArray} {v' : Value} (r : VR φ (.string s) v') : v' = .string s := by cases r; rfl
theorem VR.agg_inv {φ : Phi} {cs : Array Value} {v' : Value} (r : VR φ (.agg cs) v') : ∃ cs' : Array Value, v' = .agg cs' ∧ VRs φ cs.toList cs'.toList := by
  cases r with
  | atom h => simp [atomV] at h
  | agg l h => exact ⟨_, rfl, l, h⟩
theorem VR.tuple_inv {φ : Phi} {cs : Array Value} {v' : Value} (r : VR φ (.tuple cs) v') : ∃ cs' : Array Value, v' = .tuple cs' ∧ VRs φ cs.toList cs'.toList := by
  cases r with
  | atom h => simp [atomV] at h
  | tuple l h => exact ⟨_, rfl, l, h⟩
theorem VR.ptr_inv {φ : Phi} {i o : Nat} {v' : Value} (r : VR φ (.pointer (some ⟨i, o, none⟩)) v') : ∃ L, φ i = some L ∧ v' = .pointer (some ⟨L.b, L.base + o, none⟩) := by
  cases r with
  | atom h => simp [atomV] at h
  | ptr h => exact ⟨_, h, rfl⟩
theorem VR.slice_inv {φ : Phi} {i o n c : Nat} {v' : Value} (r : VR φ (.slice (some ⟨i, o, none⟩) n c) v') : ∃ L, φ i = some L ∧ v' = .slice (some ⟨L.b, L.base + o, none⟩) n c := by
  cases r with
  | atom h => simp [atomV] at h
  | slice h => exact ⟨_, h, rfl⟩
theorem VR.opn_inv {φ : Phi} {i o s n n' : Nat} {v' : Value} (r : VR φ (.slice (some ⟨i, o, some s⟩) n n') v') : ∃ L a c, φ i = some L ∧ v' = .slice (some a) n c ∧ n ≤ c ∧ a.spot = none ∧ (c = 0 ∨ (a = ⟨L.b, L.base + o, none⟩ ∧ L.base + o + c * s = L.fin)) := by
  cases r with
  | atom h => simp [atomV] at h
  | opn h a b c => exact ⟨_, _, _, h, rfl, a, b, c⟩
theorem VR.nilSlice_inv {φ : Phi} {n c : Nat} {v' : Value} (r : VR φ (.slice none n c) v') : v' = .slice none n c := by cases r; rfl
theorem VR.nilPtr_inv {φ : Phi} {v' : Value} (r : VR φ (.pointer none) v') : v' = .pointer none := by cases r; rfl
theorem VR.map_inv {φ : Phi} {i : Nat} {v' : Value} (r : VR φ (.map (some i)) v') : ∃ L, φ i = some L ∧ v' = .map (some L.b) := by
  cases r with
  | atom h => simp [atomV] at h
  | map h => exact ⟨_, h, rfl⟩
theorem VR.nilMap_inv {φ : Phi} {v' : Value} (r : VR φ (.map none) v') : v' = .map none := by cases r; rfl
theorem VR.func_inv {φ : Phi} {fn : Fn} {a b : Array Value} {v' : Value} (r : VR φ (.func fn a b) v') : ∃ a' b' : Array Value, v' = .func fn a' b' ∧ VRs φ a.toList a'.toList ∧ VRs φ b.toList b'.toList := by
  cases r with
  | atom h => simp [atomV] at h
  | func l m h g => exact ⟨_, _, rfl, ⟨l, h⟩, ⟨m, g⟩⟩
theorem VR.iface_inv {φ : Phi} {t : TypeId} {v v' : Value} (r : VR φ (.iface t v) v') : ∃ u, v' = .iface t u ∧ VR φ v u := by
  cases r with
  | atom h => simp [atomV] at h
  | iface h => exact ⟨_, rfl, h⟩

theorem VR.mkAgg {φ : Phi} {l l' : List Value} (h : VRs φ l l') : VR φ (.agg ⟨l⟩) (.agg ⟨l'⟩) := .agg h.1 h.2
theorem VR.mkTuple {φ : Phi} {l l' : List Value} (h : VRs φ l l') : VR φ (.tuple ⟨l⟩) (.tuple ⟨l'⟩) := .tuple h.1 h.2

/-- The cells of a value. -/
theorem cells_toList (v : Value) : v.cells.toList = cellsL v := by cases v <;> simp [Value.cells, cellsL]

theorem VR.cells {φ : Phi} {v v' : Value} (r : VR φ v v') : VRs φ (cellsL v) (cellsL v') := by
  cases r with
  | agg l h => exact ⟨l, h⟩
  | atom h =>
    have : cellsL v = [v] := by cases v <;> first | rfl | simp [atomV] at h
    rw [this]
    exact .cons (.atom h) .nil
  | ptr h => exact .cons (.ptr h) .nil
  | slice h => exact .cons (.slice h) .nil
  | opn h a b c => exact .cons (.opn h a b c) .nil
  | map h => exact .cons (.map h) .nil
  | func l m h g => exact .cons (.func l m h g) .nil
  | iface h => exact .cons (.iface h) .nil
  | tuple l h => exact .cons (.tuple l h) .nil

theorem VR.cellOk {φ : Phi} {v v' : Value} (r : VR φ v v') : v'.oneCell' = AM.cellOk v := by
  cases r <;> first | rfl | (cases v <;> first | rfl | simp_all [atomV])

/-- Plain values and old ones: what they stand to depends on the old objects alone. -/
theorem VR.old {n : Nat} {φ φ' : Phi} (he : ∀ i L, i < n → φ' i = some L → φ i = some L) : ∀ (f : Nat) {v v' : Value}, oldV n f v = true → VR φ' v v' → VR φ v v'
  | 0, v, v', h, _ => by simp [oldV] at h
  | f + 1, v, v', h, r => by
    cases r with
    | atom a => exact .atom a
    | ptr e => exact .ptr (he _ _ (by simpa [oldV] using h) e)
    | slice e => exact .slice (he _ _ (by simpa [oldV] using h) e)
    | opn e a b c => exact .opn (he _ _ (by simpa [oldV] using h) e) a b c
    | map e => exact .map (he _ _ (by simpa [oldV] using h) e)
    | func l m p q =>
      simp only [oldV, Bool.and_eq_true, List.all_eq_true] at h
      exact .func l m (fun k v v' a b => VR.old he f (h.1 v (List.mem_of_getElem? a)) (p k v v' a b)) (fun k v v' a b => VR.old he f (h.2 v (List.mem_of_getElem? a)) (q k v v' a b))
    | iface r => exact .iface (VR.old he f (by simpa [oldV] using h) r)
    | agg l p =>
      simp only [oldV, List.all_eq_true] at h
      exact .agg l (fun k v v' a b => VR.old he f (h v (List.mem_of_getElem? a)) (p k v v' a b))
    | tuple l p =>
      simp only [oldV, List.all_eq_true] at h
      exact .tuple l (fun k v v' a b => VR.old he f (h v (List.mem_of_getElem? a)) (p k v v' a b))

theorem VR.plain {φ : Phi} : ∀ (f : Nat) {v : Value}, oldV 0 f v = true → VR φ v v
  | 0, v, h => by simp [oldV] at h
  | f + 1, v, h => by
    cases v with
    | bool | int | string | nilFunc | nilIface => exact .atom rfl
    | float | complex | chan => simp [oldV] at h
    | pointer a => cases a with
      | none => exact .atom rfl
      | some a => simp [oldV] at h
    | slice a n c => cases a with
      | none => exact .atom rfl
      | some a => simp [oldV] at h
    | map m => cases m with
      | none => exact .atom rfl
      | some a => simp [oldV] at h
    | func fn a b =>
      simp only [oldV, Bool.and_eq_true, List.all_eq_true] at h
      exact .func rfl rfl (fun k v v' x y => by rw [x] at y; cases y; exact VR.plain f (h.1 v (List.mem_of_getElem? x))) (fun k v v' x y => by rw [x] at y; cases y; exact VR.plain f (h.2 v (List.mem_of_getElem? x)))
    | iface t v => exact .iface (VR.plain f (by simpa [oldV] using h))
    | agg cs =>
      simp only [oldV, List.all_eq_true] at h
      exact .agg rfl (fun k v v' x y => by rw [x] at y; cases y; exact VR.plain f (h v (List.mem_of_getElem? x)))
    | tuple cs =>
      simp only [oldV, List.all_eq_true] at h
      exact .tuple rfl (fun k v v' x y => by rw [x] at y; cases y; exact VR.plain f (h v (List.mem_of_getElem? x)))

/-! Ways. -/

def wayVal : List Bool → Nat
  | [] => 1
  | b :: p => 2 * wayVal p + (if b then 1 else 0)

theorem wayVal_incB : ∀ p, wayVal (incB p) = wayVal p + 1
  | [] => rfl
  | false :: p => by
    show wayVal (true :: p) = _
    simp [wayVal]
  | true :: p => by
    show wayVal (false :: incB p) = _
    simp [wayVal, wayVal_incB p]
    omega

theorem wayVal_wayH : ∀ k, wayVal (wayH k) = k + 1
  | 0 => rfl
  | k + 1 => by
    show wayVal (incB (wayH k)) = _
    rw [wayVal_incB, wayVal_wayH k]

theorem wayH_inj {j k : Nat} (h : wayH j = wayH k) : j = k := by
  have a := wayVal_wayH j
  have b := wayVal_wayH k
  rw [h, b] at a
  omega

theorem HT.getP_setP : ∀ (p : List Bool) (v : AObj) (t : HT), HT.getP p (HT.setP p v t) = v
  | [], v, .leaf => rfl
  | [], v, .node _ _ _ => rfl
  | false :: p, v, .leaf => by simp [HT.getP_setP p v .leaf]
  | true :: p, v, .leaf => by simp [HT.getP_setP p v .leaf]
  | false :: p, v, .node u l r => by simp [HT.getP_setP p v l]
  | true :: p, v, .node u l r => by simp [HT.getP_setP p v r]

theorem HT.getP_setP_ne : ∀ (p q : List Bool) (v : AObj) (t : HT), q ≠ p → HT.getP q (HT.setP p v t) = HT.getP q t
  | [], [], v, t, h => absurd rfl h
  | [], b :: q, v, .leaf, _ => by cases b <;> simp
  | [], b :: q, v, .node u l r, _ => by cases b <;> simp
  | b :: p, [], v, .leaf, _ => by cases b <;> simp
  | b :: p, [], v, .node u l r, _ => by cases b <;> simp
  | b :: p, c :: q, v, t, h => by
    have ih := fun t (hpq : q ≠ p) => HT.getP_setP_ne p q v t hpq
    cases b <;> cases c <;> cases t <;> simp <;>
      first
        | exact ih _ (fun e => h (by rw [e]))
        | (rw [ih _ (fun e => h (by rw [e]))]; simp)

/-! The abstract heap. -/

theorem Heap.get_push_lt {H : Heap} {o : AObj} {i : Nat} (h : i < H.n) : (H.push o).get i = H.get i := by
  have h1 : Nat.blt i (H.n + 1) = true := by simp [Nat.blt_eq]; omega
  have h2 : Nat.blt i H.n = true := by simp [Nat.blt_eq, h]
  have hne : wayH i ≠ wayH H.n := fun e => by have := wayH_inj e; omega
  simp only [Heap.get, Heap.push, h1, h2]
  exact HT.getP_setP_ne _ _ _ _ hne

theorem Heap.get_push_self {H : Heap} {o : AObj} : (H.push o).get H.n = o := by
  have h1 : Nat.blt H.n (H.n + 1) = true := by simp [Nat.blt_eq]
  simp only [Heap.get, Heap.push, h1]
  exact HT.getP_setP _ _ _

theorem Heap.push_inj {H : Heap} {o o' : AObj} (h : H.push o = H.push o') : o = o' := by
  have := congrArg (fun K => Heap.get K H.n) h
  simp only [Heap.get_push_self] at this
  exact this

theorem Heap.get_ge {H : Heap} {i : Nat} (h : H.n ≤ i) : H.get i = .dead := by
  have h2 : Nat.blt i H.n = false := by
    cases hb : Nat.blt i H.n with
    | false => rfl
    | true => rw [Nat.blt_eq] at hb; omega
  simp [Heap.get, h2]

theorem Heap.get_lt_of_ne {H : Heap} {i : Nat} (h : H.get i ≠ .dead) : i < H.n := by
  rcases Nat.lt_or_ge i H.n with g | g
  · exact g
  · exact absurd (Heap.get_ge g) h

def Heap.WF (_H : Heap) : Prop := True

theorem Heap.WF.push {H : Heap} (_h : H.WF) (o : AObj) : (H.push o).WF := trivial
theorem Heap.WF.set {H : Heap} (_h : H.WF) (i : Nat) (o : AObj) : (H.set i o).WF := trivial

theorem Heap.get_set_self {H : Heap} (_w : H.WF) {o : AObj} {i : Nat} (h : i < H.n) : (H.set i o).get i = o := by
  have h2 : Nat.blt i H.n = true := by simp [Nat.blt_eq, h]
  simp only [Heap.get, Heap.set, h2]
  exact HT.getP_setP _ _ _

theorem Heap.get_set_ne {H : Heap} {o : AObj} {i j : Nat} (h : j ≠ i) (_hi : i < H.n) : (H.set i o).get j = H.get j := by
  have hne : wayH j ≠ wayH i := fun e => h (wayH_inj e)
  simp only [Heap.get, Heap.set]
  cases Nat.blt j H.n with
  | false => rfl
  | true => exact HT.getP_setP_ne _ _ _ _ hne

@[simp] theorem Heap.set_n {H : Heap} {i : Nat} {o : AObj} : (H.set i o).n = H.n := rfl
@[simp] theorem Heap.push_n {H : Heap} {o : AObj} : (H.push o).n = H.n + 1 := rfl

/-! The temporaries. -/

theorem TT.getP_leaf : ∀ (p : List D8), TT.getP p .leaf = undef
  | [] => rfl
  | _ :: _ => rfl

theorem TT.getP_setP : ∀ (p : List D8) (v : Value) (t : TT), TT.getP p (TT.setP p v t) = v
  | [], v, .leaf => rfl
  | [], v, .node .. => rfl
  | d :: p, v, .leaf => by cases d <;> exact TT.getP_setP p v .leaf
  | d :: p, v, .node .. => by cases d <;> exact TT.getP_setP p v _

theorem TT.getP_setP_ne : ∀ (p q : List D8) (v : Value) (t : TT), q ≠ p → TT.getP q (TT.setP p v t) = TT.getP q t
  | [], [], v, t, h => absurd rfl h
  | [], e :: q, v, .leaf, _ => by cases e <;> exact TT.getP_leaf q
  | [], e :: q, v, .node .., _ => rfl
  | d :: p, [], v, .leaf, _ => by cases d <;> rfl
  | d :: p, [], v, .node .., _ => by cases d <;> rfl
  | d :: p, e :: q, v, .leaf, h => by
    have ih := fun (hpq : q ≠ p) => (TT.getP_setP_ne p q v .leaf hpq).trans (TT.getP_leaf q)
    cases d <;> cases e <;> first | exact TT.getP_leaf q | exact ih (fun e => h (by rw [e]))
  | d :: p, e :: q, v, .node .., h => by
    have ih := fun t (hpq : q ≠ p) => TT.getP_setP_ne p q v t hpq
    cases d <;> cases e <;> first | rfl | exact ih _ (fun e => h (by rw [e]))

def digitVal : D8 → Nat
  | .n0 => 0
  | .n1 => 1
  | .n2 => 2
  | .n3 => 3
  | .n4 => 4
  | .n5 => 5
  | .n6 => 6
  | .n7 => 7

def way8Val : List D8 → Nat
  | [] => 0
  | d :: p => 8 * way8Val p + digitVal d + 1

theorem digitVal_digit : ∀ m, m < 8 → digitVal (digit m) = m := by decide

theorem way8Val_wayF : ∀ (f k : Nat), k < 2 ^ f → way8Val (wayF f k) = k
  | 0, k, h => by
    have : k = 0 := by simpa using h
    subst this
    rfl
  | f + 1, 0, h => rfl
  | f + 1, m + 1, h => by
    show way8Val (digit (m % 8) :: wayF f (m / 8)) = m + 1
    have hd : m / 8 < 2 ^ f := by rw [Nat.pow_succ] at h; omega
    have hm := digitVal_digit (m % 8) (Nat.mod_lt _ (by omega))
    simp only [way8Val, way8Val_wayF f (m / 8) hd, hm]
    omega

theorem way_inj {j k : Nat} (hj : j < 1048576) (hk : k < 1048576) (h : way j = way k) : j = k := by
  have a := way8Val_wayF 21 j (by omega)
  have b := way8Val_wayF 21 k (by omega)
  unfold way at h
  rw [h, b] at a
  omega

theorem TT.get_set {t : TT} {k : Nat} {v : Value} : (t.set k v).get k = v := TT.getP_setP _ _ _
theorem TT.get_set_ne {t : TT} {j k : Nat} {v : Value} (hj : j < 1048576) (hk : k < 1048576) (h : j ≠ k) : (t.set k v).get j = t.get j :=
  TT.getP_setP_ne _ _ _ _ fun e => h (way_inj hj hk e)

/-- The temporaries stand to those of an act. -/
def TR (φ : Phi) (t : TT) (tm : Array Value) : Prop := ∀ k, k < 1048576 → VR φ (t.get k) (tm.getD k undef)

theorem TR.mono {φ φ' : Phi} (h : Ext φ φ') {t : TT} {tm : Array Value} (r : TR φ t tm) : TR φ' t tm := fun k hk => (r k hk).mono h

theorem TR.set {φ : Phi} {t : TT} {tm : Array Value} (r : TR φ t tm) {d : Nat} {v v' : Value} (hd : d < tm.size) (hb : d < 1048576) (hv : VR φ v v') : TR φ (t.set d v) (tm.setIfInBounds d v') := by
  intro k hk
  by_cases e : k = d
  · subst e
    rw [TT.get_set]
    simp [hd, hv]
  · rw [TT.get_set_ne hk hb e]
    have := r k hk
    simp only [Array.getD_eq_getD_getElem?] at *
    rw [Array.getElem?_setIfInBounds_ne (fun h => e h.symm)]
    exact this

end Go.AM

namespace Go.AM

/-- The kinds of keys that are compared by sight. -/
inductive KK where
  | int (k : IntKind)
  | str
  | bool
  deriving DecidableEq

def keyKind : Value → Option KK
  | .int k _ => some (.int k)
  | .string _ => some .str
  | .bool _ => some .bool
  | _ => none

structure MapRel (φ : Phi) (es : List (Value × Value)) (es' : List MapEntry) : Prop where
  there : ∀ p, p ∈ es → ∃ e, e ∈ es' ∧ e.key = p.1 ∧ VR φ p.2 e.val
  back : ∀ e, e ∈ es' → ∃ p, p ∈ es ∧ p.1 = e.key
  len : es.length = es'.length
  kinds : ∃ kk, ∀ p, p ∈ es → keyKind p.1 = some kk
  nodup : (es.map (·.1)).Nodup
  nodup' : (es'.map (·.key)).Nodup

/-- The stamps of a map's entries. -/
structure Stamps (clk : Nat) (es : List MapEntry) : Prop where
  lt : ∀ e, e ∈ es → e.born < clk
  nodup : (es.map (·.born)).Nodup

theorem Stamps.nil {clk : Nat} : Stamps clk [] := ⟨by simp, by simp⟩

theorem Stamps.add {clk : Nat} {es : List MapEntry} (h : Stamps clk es) (k v : Value) : Stamps (clk + 1) (es ++ [{ key := k, val := v, born := clk }]) := by
  refine ⟨fun e he => ?_, ?_⟩
  · rcases List.mem_append.1 he with he | he
    · have := h.lt e he
      omega
    · simp at he
      subst he
      simp
  · rw [List.map_append, List.nodup_append]
    refine ⟨h.nodup, by simp, fun x hx y hy e => ?_⟩
    simp at hy
    obtain ⟨q, hq, rfl⟩ := List.mem_map.1 hx
    have := h.lt q hq
    omega

theorem Stamps.update {clk : Nat} {es : List MapEntry} (h : Stamps clk es) (j : Nat) (k v : Value) : Stamps clk (es.modify j fun e => { e with key := k, val := v }) := by
  have hb : (es.modify j fun e => { e with key := k, val := v }).map (·.born) = es.map (·.born) := by
    apply List.ext_getElem?
    intro i
    simp only [List.getElem?_map, List.getElem?_modify]
    by_cases hi : j = i
    · subst hi
      cases es[j]? <;> simp
    · simp [hi]
  refine ⟨fun e he => ?_, by rw [hb]; exact h.nodup⟩
  have : e.born ∈ es.map (·.born) := by rw [← hb]; exact List.mem_map.2 ⟨e, he, rfl⟩
  obtain ⟨q, hq, e'⟩ := List.mem_map.1 this
  rw [← e']
  exact h.lt q hq

def clearOf (fr : Nat × Nat) (k : Nat) : Prop := ¬ (fr.1 ≤ k ∧ k < fr.2)

/-- An object stands to what lies in its block. -/
def ObjRel (φ : Phi) (w : World) (o : AObj) (L : Loc) : Prop :=
  match o with
  | .cells cs _ b => ∃ C el fr, w.heap[L.b]? = some (.cells C el fr) ∧ (∀ (k : Nat) v, cs[k]? = some v → ∃ v', C[L.base + k]? = some v' ∧ VR φ v v' ∧ cellOk v = true) ∧
      (∀ k, L.base ≤ k → k < L.base + cs.length → clearOf fr k) ∧ (b = true → L.fin ≤ C.size ∧ ∀ k, L.base ≤ k → k < L.fin → clearOf fr k)
  | .map es => ∃ es' clk, w.heap[L.b]? = some (.map es' clk) ∧ MapRel φ es es'.toList ∧ Stamps clk es'.toList
  | .iter s pos => w.heap[L.b]? = some (.stringIter s pos) ∧ L.base = 0
  | .dead => True

theorem MapRel.mono {φ φ' : Phi} (h : Ext φ φ') {es : List (Value × Value)} {es' : List MapEntry} (r : MapRel φ es es') : MapRel φ' es es' :=
  ⟨fun p hp => let ⟨e, he, hk, hv⟩ := r.there p hp; ⟨e, he, hk, hv.mono h⟩, r.back, r.len, r.kinds, r.nodup, r.nodup'⟩

theorem ObjRel.mono {φ φ' : Phi} (h : Ext φ φ') {w : World} {o : AObj} {L : Loc} (r : ObjRel φ w o L) : ObjRel φ' w o L := by
  cases o with
  | cells cs e b =>
    obtain ⟨C, el, fr, hb, hc, hf, ho⟩ := r
    exact ⟨C, el, fr, hb, fun k v hk => let ⟨v', a, b, c⟩ := hc k v hk; ⟨v', a, b.mono h, c⟩, hf, ho⟩
  | map es => obtain ⟨es', clk, hb, hm, hs⟩ := r; exact ⟨es', clk, hb, hm.mono h, hs⟩
  | iter s pos => exact r
  | dead => trivial

theorem ObjRel.block {φ : Phi} {w w' : World} {o : AObj} {L : Loc} (h : w'.heap[L.b]? = w.heap[L.b]?) (r : ObjRel φ w o L) : ObjRel φ w' o L := by
  cases o with
  | cells cs e b => obtain ⟨C, el, fr, hb, rest⟩ := r; exact ⟨C, el, fr, h ▸ hb, rest⟩
  | map es => obtain ⟨es', clk, hb, hm, hs⟩ := r; exact ⟨es', clk, h ▸ hb, hm, hs⟩
  | iter s pos => exact ⟨h.trans r.1, r.2⟩
  | dead => trivial

/-- The abstract heap stands to the world. -/
structure Rel (g : Nat) (φ : Phi) (H : Heap) (w : World) : Prop where
  wf : H.WF
  dom : ∀ i L, φ i = some L → i < H.n
  obj : ∀ i L, φ i = some L → ObjRel φ w (H.get i) L
  blk : ∀ i L, φ i = some L → L.b < w.heap.size
  inj : ∀ i j L M, φ i = some L → φ j = some M → H.get i ≠ .dead → H.get j ≠ .dead → i ≠ j → L.b ≠ M.b
  glob : ∀ i, i < g → φ i = some ⟨i, 0, 0⟩

/-- What a step leaves as it was. -/
structure Frame (φ : Phi) (wr : List Nat) (w w' : World) : Prop where
  size : w.heap.size ≤ w'.heap.size
  os : w'.os = w.os
  output : w'.output = w.output
  tape : w'.tape = w.tape
  heap : ∀ b, b < w.heap.size → (∀ i L, i ∈ wr → φ i = some L → L.b ≠ b) → w'.heap[b]? = w.heap[b]?

/-- New objects have numbers from 'lo' on; they lie in new blocks, or in one that was written. -/
def Fresh (lo : Nat) (φ φ' : Phi) (wr : List Nat) (w : World) : Prop :=
  ∀ i L, φ i = none → φ' i = some L → lo ≤ i ∧ (w.heap.size ≤ L.b ∨ ∃ j M, j ∈ wr ∧ φ j = some M ∧ M.b = L.b)

theorem Frame.same {φ : Phi} {wr : List Nat} {w w' : World} (hh : w'.heap = w.heap) (ho : w'.os = w.os) (hp : w'.output = w.output) (ht : w'.tape = w.tape) : Frame φ wr w w' :=
  ⟨by rw [hh]; exact Nat.le_refl _, ho, hp, ht, fun b _ _ => by rw [hh]⟩

theorem Frame.refl {φ : Phi} {wr : List Nat} {w : World} : Frame φ wr w w := .same rfl rfl rfl rfl

theorem Fresh.refl {lo : Nat} {φ : Phi} {wr : List Nat} {w : World} : Fresh lo φ φ wr w := fun i L h g => by rw [h] at g; cases g

theorem Rel.heap {g : Nat} {φ : Phi} {H : Heap} {w w' : World} (r : Rel g φ H w) (hh : w'.heap = w.heap) : Rel g φ H w' :=
  ⟨r.wf, r.dom, fun i L e => (r.obj i L e).block (by rw [hh]), fun i L e => by rw [hh]; exact r.blk i L e, r.inj, r.glob⟩

/-- What a step comes to. -/
def Out (g lo : Nat) (φ : Phi) (w : World) (v : Value) (H' : Heap) (wr : List Nat) (v' : Value) (w' : World) : Prop :=
  ∃ φ', Ext φ φ' ∧ VR φ' v v' ∧ Rel g φ' H' w' ∧ Frame φ wr w w' ∧ Fresh lo φ φ' wr w ∧ lo ≤ H'.n

theorem Out.same {g : Nat} {φ : Phi} {H : Heap} {w w' : World} {v v' : Value} {wr : List Nat} (r : Rel g φ H w) (hv : VR φ v v') (hh : w'.heap = w.heap) (ho : w'.os = w.os)
    (hp : w'.output = w.output) (ht : w'.tape = w.tape) : Out g H.n φ w v H wr v' w' :=
  ⟨φ, .refl φ, hv, r.heap hh, .same hh ho hp ht, .refl, Nat.le_refl _⟩

/-! A new object. -/

def Phi.put (φ : Phi) (i : Nat) (L : Loc) : Phi := fun j => if j = i then some L else φ j

theorem Phi.put_self {φ : Phi} {i : Nat} {L : Loc} : φ.put i L i = some L := by simp [Phi.put]
theorem Phi.put_ne {φ : Phi} {i j : Nat} {L : Loc} (h : j ≠ i) : φ.put i L j = φ j := by simp [Phi.put, h]

theorem Ext.put {φ : Phi} {i : Nat} {L : Loc} (h : φ i = none) : Ext φ (φ.put i L) := by
  intro j M e
  by_cases hj : j = i
  · subst hj; rw [h] at e; cases e
  · rw [Phi.put_ne hj]; exact e

theorem Rel.fresh_id {g : Nat} {φ : Phi} {H : Heap} {w : World} (r : Rel g φ H w) {i : Nat} (h : H.n ≤ i) : φ i = none := by
  cases e : φ i with
  | none => rfl
  | some L => have := r.dom i L e; omega

/-- The abstract heap grows: nothing stands to what is new as yet. -/
theorem Rel.grow {g : Nat} {φ : Phi} {H H' : Heap} {w : World} (r : Rel g φ H w) (wf : H'.WF) (hn : H.n ≤ H'.n) (hg : ∀ i, i < H.n → H'.get i = H.get i) : Rel g φ H' w :=
  ⟨wf, fun i L e => Nat.lt_of_lt_of_le (r.dom i L e) hn, fun i L e => by rw [hg i (r.dom i L e)]; exact r.obj i L e, r.blk,
    fun i j L M e f a b => by rw [hg i (r.dom i L e)] at a; rw [hg j (r.dom j M f)] at b; exact r.inj i j L M e f a b, r.glob⟩

theorem Rel.push {g : Nat} {φ : Phi} {H : Heap} {w : World} (r : Rel g φ H w) (o : AObj) : Rel g φ (H.push o) w :=
  r.grow (r.wf.push o) (by simp) fun i h => Heap.get_push_lt h

/-- An object that nothing stood to: a new block is laid for it. -/
theorem Rel.realize {g : Nat} {φ : Phi} {H : Heap} {w : World} (r : Rel g φ H w) {i : Nat} (hi : i < H.n) (hφ : φ i = none) (o : Obj) (L : Loc) (hb : L.b = w.heap.size)
    (ho : ObjRel (φ.put i L) { w with heap := w.heap.push o } (H.get i) L) : Rel g (φ.put i L) H { w with heap := w.heap.push o } := by
  have ext : Ext φ (φ.put i L) := .put hφ
  have old : ∀ j M, φ j = some M → ({ w with heap := w.heap.push o } : World).heap[M.b]? = w.heap[M.b]? := fun j M e => by
    have := r.blk j M e
    simp [Array.getElem?_push, Nat.ne_of_lt this]
  refine ⟨r.wf, fun j M e => ?_, fun j M e => ?_, fun j M e => ?_, fun j k M N e f a b hne => ?_, fun j hj => ext _ _ (r.glob j hj)⟩
  · by_cases hj : j = i
    · subst hj; exact hi
    · rw [Phi.put_ne hj] at e; exact r.dom j M e
  · by_cases hj : j = i
    · subst hj; rw [Phi.put_self] at e; cases e; exact ho
    · rw [Phi.put_ne hj] at e
      exact ((r.obj j M e).block (old j M e)).mono ext
  · by_cases hj : j = i
    · subst hj; rw [Phi.put_self] at e; cases e; simp [hb]
    · rw [Phi.put_ne hj] at e
      have := r.blk j M e
      simp; omega
  · by_cases hj : j = i
    · subst hj
      rw [Phi.put_self] at e; cases e
      rw [Phi.put_ne (fun h => hne h.symm)] at f
      have := r.blk k N f
      omega
    · rw [Phi.put_ne hj] at e
      by_cases hk : k = i
      · subst hk
        rw [Phi.put_self] at f; cases f
        have := r.blk j M e
        omega
      · rw [Phi.put_ne hk] at f
        exact r.inj j k M N e f a b hne

theorem Frame.push {φ : Phi} {wr : List Nat} {w : World} (o : Obj) : Frame φ wr w { w with heap := w.heap.push o } :=
  ⟨by simp, rfl, rfl, rfl, fun b hb _ => by simp [Array.getElem?_push, Nat.ne_of_lt hb]⟩

theorem Fresh.put {lo : Nat} {φ : Phi} {wr : List Nat} {w : World} {i : Nat} {L : Loc} (hlo : lo ≤ i) (h : w.heap.size ≤ L.b) : Fresh lo φ (φ.put i L) wr w := by
  intro j M e f
  by_cases hj : j = i
  · subst hj; rw [Phi.put_self] at f; cases f; exact ⟨hlo, .inl h⟩
  · rw [Phi.put_ne hj] at f; rw [e] at f; cases f

theorem Frame.trans {φ φ' : Phi} {wr wr' : List Nat} {w w' w'' : World} (h : Frame φ wr w w') (k : Frame φ' wr' w' w'')
    (hs : ∀ b, b < w.heap.size → (∀ i L, i ∈ wr → φ i = some L → L.b ≠ b) → ∀ i L, i ∈ wr' → φ' i = some L → L.b ≠ b) : Frame φ wr w w'' :=
  ⟨Nat.le_trans h.size k.size, k.os.trans h.os, k.output.trans h.output, k.tape.trans h.tape,
    fun b hb hw => (k.heap b (Nat.lt_of_lt_of_le hb h.size) (hs b hb hw)).trans (h.heap b hb hw)⟩

/-- The cells of a new row. -/
theorem objRel_new {φ : Phi} {w : World} {cs : List Value} {cs' : Array Value} {e el : TypeId} {b : Bool} {L : Loc} (hb : L.b = w.heap.size) (h0 : L.base = 0) (hv : Pw (VR φ) cs (cs'.toList.take cs.length))
    (hl : cs.length ≤ cs'.size) (hc : cs.all cellOk = true) (hf : b = true → L.fin ≤ cs'.size) (fr : Nat × Nat) (hfr : ∀ k, k < cs'.size → clearOf fr k) :
    ObjRel φ { w with heap := w.heap.push (.cells cs' el fr) } (.cells cs e b) L := by
  refine ⟨cs', el, fr, by simp [hb], fun k v hk => ?_, fun k h1 h2 => hfr k (by omega), fun hb => ⟨hf hb, fun k h1 h2 => hfr k (by have := hf hb; omega)⟩⟩
  obtain ⟨v', h1, h2⟩ := hv.get hk
  rw [List.getElem?_take] at h1
  have hk' : k < cs.length := by
    rcases Nat.lt_or_ge k cs.length with h | h
    · exact h
    · simp [List.getElem?_eq_none h] at hk
  simp only [hk', if_true, Array.getElem?_toList] at h1
  exact ⟨v', by simpa [h0] using h1, h2, List.all_eq_true.1 hc v (List.mem_of_getElem? hk)⟩

theorem clearOf_zero (k : Nat) : clearOf (0, 0) k := by simp [clearOf]

/-! Loads. -/

theorem takeL_spec : ∀ (n : Nat) (cs r : List Value), takeL n cs = some r → r = cs.take n ∧ n ≤ cs.length
  | 0, cs, r, h => by simp [takeL] at h; subst h; simp
  | n + 1, [], r, h => by simp [takeL] at h
  | n + 1, c :: cs, r, h => by
    simp only [takeL] at h
    cases e : takeL n cs with
    | none => simp [e] at h
    | some q =>
      simp [e] at h
      obtain ⟨h1, h2⟩ := takeL_spec n cs q e
      subst h
      simp [h1, h2]

theorem takeAt_spec {o n : Nat} {cs r : List Value} (h : takeAt o n cs = some r) : r = (cs.drop o).take n ∧ o + n ≤ cs.length ∨ (n = 0 ∧ r = []) := by
  obtain ⟨h1, h2⟩ := takeL_spec _ _ _ h
  simp at h2
  by_cases hn : n = 0
  · subst hn; simp at h1; exact .inr ⟨rfl, h1⟩
  · exact .inl ⟨h1, by omega⟩

theorem takeAt_len {o n : Nat} {cs r : List Value} (h : takeAt o n cs = some r) : r.length = n := by
  obtain ⟨h1, h2⟩ := takeL_spec _ _ _ h
  subst h1
  simp at h2 ⊢; omega

theorem takeAt_get {o n : Nat} {cs r : List Value} (h : takeAt o n cs = some r) {k : Nat} {v : Value} (hk : r[k]? = some v) : cs[o + k]? = some v := by
  obtain ⟨h1, h2⟩ := takeL_spec _ _ _ h
  subst h1
  rw [List.getElem?_take] at hk
  split at hk
  · simpa using hk
  · cases hk

/-- The cells of an object, as the world holds them. -/
theorem ObjRel.row {φ : Phi} {w : World} {cs : List Value} {e : TypeId} {b : Bool} {L : Loc} (r : ObjRel φ w (.cells cs e b) L) {o n : Nat} {l : List Value} (h : takeAt o n cs = some l) :
    ∃ l', VRs φ l l' ∧ l.all cellOk = true ∧ ∀ (j : Nat) v, l'[j]? = some v → w.cell? ((⟨L.b, L.base + o, none⟩ : Addr).add j) = some v := by
  obtain ⟨C, el, fr, hb, hc, hf, ho⟩ := r
  have hadd : ∀ j, (⟨L.b, L.base + o, none⟩ : Addr).add j = ⟨L.b, L.base + o + j, none⟩ := fun j => by unfold Addr.add; split <;> simp_all
  have hlen := takeAt_len h
  have hex : ∀ (j : Nat) v, l[j]? = some v → ∃ v', C[L.base + o + j]? = some v' ∧ VR φ v v' ∧ cellOk v = true := fun j v hj => by
    have := hc (o + j) v (takeAt_get h hj)
    rwa [show L.base + (o + j) = L.base + o + j by omega] at this
  refine ⟨(List.range n).map fun j => (C[L.base + o + j]?).getD undef, ⟨by simp [hlen], fun k v v' a b => ?_⟩, ?_, fun j v hj => ?_⟩
  · obtain ⟨u, h1, h2, _⟩ := hex k v a
    simp only [List.getElem?_map, Option.map_eq_some_iff] at b
    obtain ⟨x, hx, rfl⟩ := b
    have : x = k := by
      rw [List.getElem?_range] at hx
      · cases hx; rfl
      · have : k < l.length := by
          rcases Nat.lt_or_ge k l.length with h | h
          · exact h
          · simp [List.getElem?_eq_none h] at a
        omega
    subst this
    simpa [h1] using h2
  · rw [List.all_eq_true]
    intro v hv
    obtain ⟨k, hk⟩ := List.getElem?_of_mem hv
    obtain ⟨_, _, _, h⟩ := hex k v hk
    exact h
  · simp only [List.getElem?_map, Option.map_eq_some_iff] at hj
    obtain ⟨x, hx, rfl⟩ := hj
    have hx' : x = j ∧ j < n := by
      have hj : j < n := by
        rcases Nat.lt_or_ge j n with h | h
        · exact h
        · simp [List.getElem?_eq_none, h] at hx
      rw [List.getElem?_range hj] at hx
      cases hx
      exact ⟨rfl, hj⟩
    obtain ⟨rfl, hj⟩ := hx'
    have hlt : x < l.length := by omega
    obtain ⟨u, h1, _⟩ := hex x l[x] (by simp [hlt])
    rw [hadd]
    simp [World.cell?, hb, h1]

theorem ObjRel.cell {φ : Phi} {w : World} {cs : List Value} {e : TypeId} {b : Bool} {L : Loc} (r : ObjRel φ w (.cells cs e b) L) {o : Nat} {v : Value} (h : cs[o]? = some v) :
    ∃ v', VR φ v v' ∧ cellOk v = true ∧ w.cell? ⟨L.b, L.base + o, none⟩ = some v' := by
  obtain ⟨C, el, fr, hb, hc, hf, ho⟩ := r
  obtain ⟨v', h1, h2, h3⟩ := hc o v h
  exact ⟨v', h2, h3, by simp [World.cell?, hb, h1]⟩

/-! Stores. -/

def setRow (C : Array Value) : Nat → List Value → Array Value
  | _, [] => C
  | o, v :: r => setRow (C.setIfInBounds o v) (o + 1) r

theorem setRow_size : ∀ (vs : List Value) (o : Nat) (C : Array Value), (setRow C o vs).size = C.size
  | [], _, _ => rfl
  | v :: r, o, C => by rw [setRow, setRow_size r]; simp

theorem setRow_out : ∀ (vs : List Value) (o : Nat) (C : Array Value) (k : Nat), k < o ∨ o + vs.length ≤ k → (setRow C o vs)[k]? = C[k]?
  | [], _, _, _, _ => rfl
  | v :: r, o, C, k, h => by
    rw [setRow, setRow_out r (o + 1) _ k (by simp at h; omega), Array.getElem?_setIfInBounds_ne (by simp at h; omega)]

theorem setRow_in : ∀ (vs : List Value) (o : Nat) (C : Array Value) (j : Nat) (v : Value), o + vs.length ≤ C.size → vs[j]? = some v → (setRow C o vs)[o + j]? = some v
  | [], _, _, _, _, _, h => by simp at h
  | u :: r, o, C, 0, v, hs, h => by
    simp at h; subst h
    simp at hs
    rw [setRow, setRow_out r (o + 1) _ _ (by omega)]
    simp [show o < C.size by omega]
  | u :: r, o, C, j + 1, v, hs, h => by
    simp at h hs
    rw [setRow, show o + (j + 1) = o + 1 + j by omega]
    exact setRow_in r (o + 1) _ j v (by simp; omega) h

theorem heap_setCell {w : World} {b o : Nat} {v : Value} {C : Array Value} {el : TypeId} {fr : Nat × Nat} (h : w.heap[b]? = some (.cells C el fr)) :
    (w.setCell ⟨b, o, none⟩ v).heap[b]? = some (.cells (C.setIfInBounds o v) el fr) := by
  simp [World.setCell, Array.getElem?_modify, h]

theorem heap_setCells (b : Nat) : ∀ (vs : List Value) (o : Nat) (w : World) (C : Array Value) (el : TypeId) (fr : Nat × Nat), w.heap[b]? = some (.cells C el fr) →
    (w.setCells b o vs).heap[b]? = some (.cells (setRow C o vs) el fr)
  | [], _, _, _, _, _, h => h
  | v :: r, o, w, C, el, fr, h => by rw [World.setCells, setRow]; exact heap_setCells b r (o + 1) _ _ _ _ (heap_setCell h)

theorem setCells_rest (b : Nat) : ∀ (vs : List Value) (o : Nat) (w : World), (w.setCells b o vs).heap.size = w.heap.size ∧ (w.setCells b o vs).os = w.os ∧ (w.setCells b o vs).output = w.output ∧
    (w.setCells b o vs).tape = w.tape ∧ ∀ c, c ≠ b → (w.setCells b o vs).heap[c]? = w.heap[c]?
  | [], _, _ => ⟨rfl, rfl, rfl, rfl, fun _ _ => rfl⟩
  | v :: r, o, w => by
    obtain ⟨h1, h2, h3, h4, h5⟩ := setCells_rest b r (o + 1) (w.setCell ⟨b, o, none⟩ v)
    rw [World.setCells]
    refine ⟨by rw [h1]; simp [World.setCell], h2, h3, h4, fun c hc => ?_⟩
    rw [h5 c hc]
    simp only [World.setCell, Array.getElem?_modify]
    rw [if_neg (fun h => hc h.symm)]

theorem putL_spec : ∀ (vs cs r : List Value), putL vs cs = some r → r = vs ++ cs.drop vs.length ∧ vs.length ≤ cs.length ∧ vs.all cellOk = true
  | [], cs, r, h => by simp [putL] at h; subst h; simp
  | v :: vs, [], r, h => by simp [putL] at h
  | v :: vs, c :: cs, r, h => by
    simp only [putL] at h
    cases e : cellOk v with
    | false => simp [e] at h
    | true =>
      simp only [e] at h
      cases q : putL vs cs with
      | none => simp [q] at h
      | some z =>
        simp [q] at h
        obtain ⟨h1, h2, h3⟩ := putL_spec vs cs z q
        subst h
        simp [h1, h2, e]
        simpa using h3

theorem putAt_spec : ∀ (o : Nat) (vs cs r : List Value), putAt o vs cs = some r → r = cs.take o ++ vs ++ cs.drop (o + vs.length) ∧ o + vs.length ≤ cs.length ∧ vs.all cellOk = true
  | 0, vs, cs, r, h => by
    obtain ⟨h1, h2, h3⟩ := putL_spec vs cs r h
    exact ⟨by simp [h1], by omega, h3⟩
  | o + 1, vs, [], r, h => by simp [putAt] at h
  | o + 1, vs, c :: cs, r, h => by
    simp only [putAt] at h
    cases q : putAt o vs cs with
    | none => simp [q] at h
    | some z =>
      simp [q] at h
      obtain ⟨h1, h2, h3⟩ := putAt_spec o vs cs z q
      subst h
      refine ⟨?_, by simp; omega, h3⟩
      rw [h1, show o + 1 + vs.length = (o + vs.length) + 1 by omega]
      simp

theorem putAt_get {o : Nat} {vs cs r : List Value} (h : putAt o vs cs = some r) (k : Nat) : r[k]? = if o ≤ k ∧ k < o + vs.length then vs[k - o]? else cs[k]? := by
  obtain ⟨h1, h2, _⟩ := putAt_spec o vs cs r h
  subst h1
  have hl : (cs.take o).length = o := by simp; omega
  by_cases hk : k < o
  · rw [List.append_assoc, List.getElem?_append_left (by omega)]
    have : ¬ (o ≤ k ∧ k < o + vs.length) := by omega
    simp [this, List.getElem?_take, hk]
  · by_cases hk2 : k < o + vs.length
    · rw [List.getElem?_append_left (by simp [hl]; omega), List.getElem?_append_right (by omega), hl]
      simp [show o ≤ k by omega, hk2]
    · rw [List.getElem?_append_right (by simp [hl]; omega)]
      have : ¬ (o ≤ k ∧ k < o + vs.length) := by omega
      simp only [this, if_false, List.getElem?_drop, List.length_append, hl]
      congr 1
      omega

theorem putAt_len {o : Nat} {vs cs r : List Value} (h : putAt o vs cs = some r) : r.length = cs.length := by
  obtain ⟨h1, h2, _⟩ := putAt_spec o vs cs r h
  subst h1
  simp; omega

/-- Cells of an object are written. -/
theorem Rel.put {g : Nat} {φ : Phi} {H : Heap} {w : World} (r : Rel g φ H w) {i o : Nat} {L : Loc} (hi : φ i = some L) {cs : List Value} {e : TypeId} {b : Bool} (hg : H.get i = .cells cs e b)
    {vs vs' r' : List Value} (hp : putAt o vs cs = some r') (hv : VRs φ vs vs') :
    (∀ v ∈ vs', v.oneCell' = true) ∧ (∀ j, j < vs'.length → (w.cell? ⟨L.b, L.base + o + j, none⟩).isSome = true) ∧ (∀ j, j < vs'.length → w.frozen? ⟨L.b, L.base + o + j, none⟩ = false) ∧
      Rel g φ (H.set i (.cells r' e b)) (w.setCells L.b (L.base + o) vs') ∧ Frame φ [i] w (w.setCells L.b (L.base + o) vs') := by
  obtain ⟨h1, h2, h3⟩ := putAt_spec o vs cs r' hp
  have hobj := r.obj i L hi
  rw [hg] at hobj
  obtain ⟨C, el, fr, hb, hc, hf, ho⟩ := hobj
  obtain ⟨s1, s2, s3, s4, s5⟩ := setCells_rest L.b vs' (L.base + o) w
  have hin : i < H.n := Heap.get_lt_of_ne (by rw [hg]; simp)
  have hcell : ∀ j, j < vs.length → ∃ u, C[L.base + o + j]? = some u := fun j hj => by
    obtain ⟨u, hu, _⟩ := hc (o + j) (cs[o + j]'(by omega)) (by simp [show o + j < cs.length by omega])
    exact ⟨u, by rwa [show L.base + (o + j) = L.base + o + j by omega] at hu⟩
  have hlen := hv.1
  have hsz : 0 < vs.length → L.base + o + vs'.length ≤ C.size := fun h => by
    obtain ⟨u, hu⟩ := hcell (vs.length - 1) (by omega)
    have : L.base + o + (vs.length - 1) < C.size := by
      rcases Nat.lt_or_ge (L.base + o + (vs.length - 1)) C.size with h | h
      · exact h
      · simp [Array.getElem?_eq_none h] at hu
    omega
  refine ⟨fun v hv' => ?_, fun j hj => ?_, fun j hj => ?_, ⟨r.wf.set _ _, fun j M f => r.dom j M f, fun j M f => ?_, fun j M f => by rw [s1]; exact r.blk j M f, fun j k M N f q x y hne => ?_, r.glob⟩, ?_⟩
  · obtain ⟨k, hk⟩ := List.getElem?_of_mem hv'
    have hk' : k < vs.length := by
      rcases Nat.lt_or_ge k vs.length with h | h
      · exact h
      · simp [List.getElem?_eq_none, ← hlen, h] at hk
    have := hv.2 k vs[k] v (by simp [hk']) hk
    rw [this.cellOk]
    exact List.all_eq_true.1 h3 _ (List.getElem_mem hk')
  · obtain ⟨u, hu⟩ := hcell j (by omega)
    simp [World.cell?, hb, hu]
  · have hq := hf (L.base + o + j) (by omega) (by omega)
    simp only [World.frozen?, hb]
    unfold clearOf at hq
    simpa using hq
  · by_cases hj : j = i
    · subst hj
      rw [Heap.get_set_self r.wf hin]
      rw [hi] at f; cases f
      refine ⟨setRow C (L.base + o) vs', el, fr, heap_setCells L.b vs' _ w C el fr hb, fun k v hk => ?_, fun k a b => hf k a (by rw [putAt_len hp] at b; exact b), fun h => ⟨by rw [setRow_size]; exact (ho h).1, (ho h).2⟩⟩
      rw [putAt_get hp] at hk
      split at hk
      · rename_i hkk
        obtain ⟨v', hv1, hv2⟩ := hv.get hk
        have hpos : 0 < vs.length := by omega
        refine ⟨v', ?_, hv2, List.all_eq_true.1 h3 v (List.mem_of_getElem? hk)⟩
        have := setRow_in vs' (L.base + o) C (k - o) v' (hsz hpos) hv1
        rwa [show L.base + o + (k - o) = L.base + k by omega] at this
      · rename_i hkk
        obtain ⟨v', hv1, hv2, hv3⟩ := hc k v hk
        refine ⟨v', ?_, hv2, hv3⟩
        rw [setRow_out _ _ _ _ (by omega)]
        exact hv1
    · rw [Heap.get_set_ne hj hin]
      by_cases hd : H.get j = .dead
      · rw [hd]; trivial
      · refine (r.obj j M f).block (s5 _ ?_)
        exact r.inj j i M L f hi hd (by rw [hg]; simp) hj
  · have hx : ∀ z, (H.set i (.cells r' e b)).get z ≠ .dead → H.get z ≠ .dead := fun z hz => by
      by_cases hzi : z = i
      · subst hzi; rw [hg]; simp
      · rwa [Heap.get_set_ne hzi hin] at hz
    exact r.inj j k M N f q (hx j x) (hx k y) hne
  · exact ⟨by rw [s1]; exact Nat.le_refl _, s2, s3, s4, fun c hc hw => s5 c (fun h => hw i L (by simp) hi h.symm)⟩

end Go.AM

namespace Go.AM

section tables
variable {P : Program} {t : TypeId}

theorem run_info {i : TypeInfo} (h : P.info? t = some i) (w : World) : (typeInfo t).run P w = .ok i w := by simp [typeInfo, h]
theorem run_size {i : TypeInfo} (h : P.info? t = some i) (w : World) : (sizeOf t).run P w = .ok i.size w := by simp [sizeOf, run_info h]
theorem run_zero {i : TypeInfo} {z : Value} (h : P.info? t = some i) (hz : i.zero = some z) (w : World) : (zeroValue t).run P w = .ok z w := by simp [zeroValue, run_info h, hz]
theorem run_agg {d : TypeDesc} (h : P.underlying t = some d) (w : World) : (isAgg t).run P w = .ok (match d with | .struct _ => true | .array .. => true | _ => false) w := by
  cases d <;> simp [isAgg, run_underlying h]
end tables

variable {E : Env}

theorem sizeT_spec {t : TypeId} {n : Nat} (h : sizeT E t = some n) : ∃ i, E.P.info? t = some i ∧ i.size = n := by
  unfold sizeT at h
  cases e : E.P.info? t with
  | none => simp [e] at h
  | some i => simp [e] at h; exact ⟨i, rfl, h⟩

theorem run_sizeT {t : TypeId} {n : Nat} (h : sizeT E t = some n) (w : World) : (sizeOf t).run E.P w = .ok n w := by
  obtain ⟨i, hi, rfl⟩ := sizeT_spec h
  exact run_size hi w

theorem zeroT_spec {t : TypeId} {z : Value} (h : zeroT E t = some z) : ∃ i, E.P.info? t = some i ∧ i.zero = some z ∧ oldV 0 4 z = true := by
  unfold zeroT at h
  cases e : E.P.info? t with
  | none => simp [e] at h
  | some i =>
    simp only [e] at h
    cases q : i.zero with
    | none => simp [q] at h
    | some y =>
      simp only [q] at h
      cases p : oldV 0 4 y with
      | false => simp [p] at h
      | true => simp [p] at h; subst h; exact ⟨i, rfl, q, p⟩

theorem run_zeroT {t : TypeId} {z : Value} (h : zeroT E t = some z) (w : World) : (zeroValue t).run E.P w = .ok z w := by
  obtain ⟨i, hi, hz, _⟩ := zeroT_spec h
  exact run_zero hi hz w

theorem VR.zero {φ : Phi} {t : TypeId} {z : Value} (h : zeroT E t = some z) : VR φ z z := by
  obtain ⟨i, hi, hz, p⟩ := zeroT_spec h
  exact .plain 4 p

theorem isAggT_spec {t : TypeId} {b : Bool} (h : isAggT E t = some b) (w : World) : (isAgg t).run E.P w = .ok b w := by
  unfold isAggT at h
  cases e : E.P.underlying t with
  | none => simp [e] at h
  | some d => rw [run_agg e]; cases d <;> simp_all

theorem ptr_spec {v : Value} {i o : Nat} (h : ptr v = some (i, o)) : v = .pointer (some ⟨i, o, none⟩) := by
  cases v with
  | pointer a =>
    cases a with
    | none => simp [ptr] at h
    | some a =>
      obtain ⟨b, o', s⟩ := a
      cases s with
      | none => simp [ptr] at h; obtain ⟨rfl, rfl⟩ := h; rfl
      | some s => simp [ptr] at h
  | _ => simp [ptr] at h

theorem ptr_inv {φ : Phi} {v v' : Value} {i o : Nat} (h : ptr v = some (i, o)) (r : VR φ v v') : ∃ L, φ i = some L ∧ v' = .pointer (some ⟨L.b, L.base + o, none⟩) := by
  rw [ptr_spec h] at r
  exact r.ptr_inv

/-! Loads and stores. -/

theorem loadO_sound {H : Heap} {t : TypeId} {i o : Nat} {v : Value} {g : Nat} {φ : Phi} {w : World} {L : Loc} (h : loadO E H t i o = some v) (r : Rel g φ H w) (hi : φ i = some L) :
    ∃ v', (loadVar t ⟨L.b, L.base + o, none⟩).run E.P w = .ok v' w ∧ VR φ v v' := by
  unfold loadO at h
  have hobj := r.obj i L hi
  cases e : H.get i with
  | cells cs el b =>
    rw [e] at hobj
    simp only [e] at h
    cases ha : isAggT E t with
    | none => simp [ha] at h
    | some q =>
      have hrun := isAggT_spec ha w
      cases q with
      | true =>
        simp only [ha] at h
        cases hs : sizeT E t with
        | none => simp [hs] at h
        | some n =>
          simp only [hs] at h
          cases ht : takeAt o n cs with
          | none => simp [ht] at h
          | some l =>
            simp [ht] at h
            subst h
            obtain ⟨l', hv, hc, hl⟩ := hobj.row ht
            have hlen : l'.length = n := by rw [← hv.1]; exact takeAt_len ht
            have hload := run_loadCells_list (P := E.P) w ⟨L.b, L.base + o, none⟩ l' hl
            rw [hlen] at hload
            exact ⟨.agg ⟨l'⟩, by simp [loadVar, hrun, run_sizeT hs, hload], .mkAgg hv⟩
      | false =>
        simp only [ha] at h
        obtain ⟨v', hv, hc, hcell⟩ := hobj.cell h
        exact ⟨v', by simp [loadVar, hrun, hcell], hv⟩
  | map es => simp [e] at h
  | iter s pos => simp [e] at h
  | dead => simp [e] at h

theorem load_sound {H : Heap} {t : TypeId} {p p' : Value} {r : OpRes} {g : Nat} {φ : Phi} {w : World} (h : loadOp E H t p = some r) (hR : Rel g φ H w) (hp : VR φ p p') :
    ∃ v', (Instr.loadAt t p').run E.P w = .ok v' w ∧ VR φ r.v v' ∧ r.H = H ∧ r.wr = [] := by
  unfold loadOp at h
  cases hq : ptr p with
  | none => simp [hq] at h
  | some x =>
    obtain ⟨i, o⟩ := x
    simp only [hq] at h
    cases hl : loadO E H t i o with
    | none => simp [hl] at h
    | some v =>
      simp [hl] at h
      subst h
      obtain ⟨L, hL, rfl⟩ := ptr_inv hq hp
      obtain ⟨v', h1, h2⟩ := loadO_sound hl hR hL
      exact ⟨v', by simp [Instr.loadAt, Instr.sureAddr, h1], h2, rfl, rfl⟩

theorem store_sound {H : Heap} {t : TypeId} {p p' v v' : Value} {r : OpRes} {g : Nat} {φ : Phi} {w : World} (h : storeOp E H t p v = some r) (hR : Rel g φ H w) (hp : VR φ p p') (hv : VR φ v v') :
    ∃ w', (Instr.storeAt t p' v').run E.P w = .ok () w' ∧ r.v = undef ∧ Out g H.n φ w r.v r.H r.wr undef w' := by
  unfold storeOp at h
  cases hq : ptr p with
  | none => simp [hq] at h
  | some x =>
    obtain ⟨i, o⟩ := x
    cases hs : sizeT E t with
    | none => simp [hq, hs] at h
    | some n =>
      simp only [hq, hs] at h
      cases e : H.get i with
      | cells cs el b =>
        simp only [e] at h
        cases hb : Nat.beq (cellsL v).length n with
        | false => simp [hb] at h
        | true =>
          simp only [hb] at h
          cases hp' : putAt o (cellsL v) cs with
          | none => simp [hp'] at h
          | some z =>
            simp [hp'] at h
            subst h
            obtain ⟨L, hL, rfl⟩ := ptr_inv hq hp
            obtain ⟨h1, h2, h3, h4, h5⟩ := hR.put hL e hp' hv.cells
            have hrun := run_storeCells_cells (P := E.P) L.b (L.base + o) (cellsL v') 0 w (by simpa using h2) (by simpa using h3) h1
            have hn : v'.cells.size = n := by
              have := hv.cells.1
              rw [← Array.length_toList, cells_toList, ← this]
              exact Nat.eq_of_beq_eq_true hb
            refine ⟨_, ?_, rfl, φ, .refl φ, .undef, h4, h5, .refl, Nat.le_refl _⟩
            simp [Instr.storeAt, Instr.sureAddr, storeVar, run_sizeT hs, hn, cells_toList, hrun]
      | map es => simp [e] at h
      | iter s pos => simp [e] at h
      | dead => simp [e] at h

/-! New objects. -/

/-- An operation makes an object (number n of the abstract heap) and hands back v. -/
def Makes (P : Program) (φ : Phi) (n : Nat) (o : AObj) (v : Value) (s : Sem Value) (w : World) : Prop :=
  ∃ v' w' L ob, s.run P w = .ok v' w' ∧ w'.heap = w.heap.push ob ∧ w'.os = w.os ∧ w'.output = w.output ∧ w'.tape = w.tape ∧ L.b = w.heap.size ∧
    (φ n = none → ObjRel (φ.put n L) { w with heap := w.heap.push ob } o L) ∧ ∀ φ' : Phi, φ' n = some L → Ext φ φ' → VR φ' v v'

theorem Makes.realize {P : Program} {φ : Phi} {n : Nat} {o : AObj} {v : Value} {s : Sem Value} {w : World} (h : Makes P φ n o v s w) {g : Nat} {K : Heap} (hR : Rel g φ K w) (hn : n < K.n) (hk : K.get n = o) (hφ : φ n = none) :
    ∃ v' w', s.run P w = .ok v' w' ∧ Out g n φ w v K [] v' w' ∧ ∃ φ' L, Ext φ φ' ∧ φ' = φ.put n L ∧ VR φ' v v' ∧ Rel g φ' K w' ∧ Frame φ [] w w' ∧ Fresh n φ φ' [] w := by
  obtain ⟨v', w', L, ob, h1, h2, h3, h4, h5, h6, h7, h8⟩ := h
  have hr := hR.realize hn hφ ob L h6 (by rw [hk]; exact h7 hφ)
  have hr' : Rel g (φ.put n L) K w' := hr.heap (by rw [h2])
  have fr : Frame φ [] w w' := by
    have f := Frame.push (φ := φ) (wr := []) (w := w) ob
    exact ⟨by rw [h2]; exact f.size, h3, h4, h5, fun b hb hw => by rw [h2]; exact f.heap b hb hw⟩
  have fs : Fresh n φ (φ.put n L) [] w := .put (Nat.le_refl _) (by omega)
  have hv := h8 _ (Phi.put_self (φ := φ) (i := n) (L := L)) (.put hφ)
  exact ⟨v', w', h1, ⟨_, .put hφ, hv, hr', fr, fs, Nat.le_of_lt hn⟩, _, L, .put hφ, rfl, hv, hr', fr, fs⟩

theorem Makes.out {P : Program} {φ : Phi} {o : AObj} {v : Value} {s : Sem Value} {w : World} {g : Nat} {H : Heap} (h : Makes P φ H.n o v s w) (hR : Rel g φ H w) :
    ∃ v' w', s.run P w = .ok v' w' ∧ Out g H.n φ w v (H.push o) [] v' w' := by
  obtain ⟨v', w', h1, h2, _⟩ := h.realize (hR.push o) (by simp) Heap.get_push_self (hR.fresh_id (Nat.le_refl _))
  exact ⟨v', w', h1, h2⟩

theorem newCells_spec {H : Heap} {cs : List Value} {e : TypeId} {b : Bool} {mk : Addr → Value} {r : OpRes} (h : newCells H cs e b mk = some r) :
    cs.all cellOk = true ∧ r = ⟨mk ⟨H.n, 0, none⟩, H.push (.cells cs e b), [], false, []⟩ := by
  unfold newCells at h
  cases hc : cs.all cellOk with
  | false => simp [hc] at h
  | true => simp [hc, done] at h; exact ⟨rfl, h.symm⟩

theorem Makes.row {P : Program} {φ : Phi} {n : Nat} {cs : List Value} {cs' : Array Value} {e el : TypeId} {b : Bool} {v v' : Value} {s : Sem Value} {w w' : World} (hc : cs.all cellOk = true) (hv : VRs φ cs cs'.toList)
    (hrun : s.run P w = .ok v' w') (hh : w'.heap = w.heap.push (.cells cs' el)) (ho : w'.os = w.os) (hp : w'.output = w.output) (ht : w'.tape = w.tape)
    (hmk : ∀ φ' : Phi, φ' n = some ⟨w.heap.size, 0, cs'.size⟩ → VR φ' v v') : Makes P φ n (.cells cs e b) v s w := by
  refine ⟨v', w', ⟨w.heap.size, 0, cs'.size⟩, .cells cs' el, hrun, hh, ho, hp, ht, rfl, fun hn => ?_, fun φ' h _ => hmk φ' h⟩
  have hl : cs.length = cs'.size := by simpa using hv.1
  refine objRel_new rfl rfl ?_ (by omega) hc (fun _ => Nat.le_refl _) _ (fun k _ => clearOf_zero k)
  rw [List.take_of_length_le (by simp [hl])]
  exact Pw.mono hv fun _ _ h => VR.mono (.put hn) h

theorem alloc_makes {φ : Phi} {e : TypeId} {z : Value} {n : Nat} {w : World} (hz : zeroT E e = some z) (hc : (cellsL z).all cellOk = true) (old : Value) :
    Makes E.P φ n (.cells (cellsL z) e false) (asPtr ⟨n, 0, none⟩) (Instr.alloc e true old) w := by
  refine Makes.row (cs' := z.cells) (el := e) (v' := asPtr ⟨w.heap.size, 0, none⟩) (w' := { w with heap := w.heap.push (.cells z.cells e) }) hc (by rw [cells_toList]; exact (VR.zero hz).cells) ?_ rfl rfl rfl rfl ?_
  · simp [Instr.alloc, run_zeroT hz, newVar, newRow, asPtr]
  · intro φ' hφ
    exact .ptr (L := ⟨w.heap.size, 0, z.cells.size⟩) hφ

theorem box_makes {φ : Phi} {e : TypeId} {v v' : Value} {n : Nat} {w : World} (hv : VR φ v v') (hc : (cellsL v).all cellOk = true) :
    Makes E.P φ n (.cells (cellsL v) e false) (asPtr ⟨n, 0, none⟩) (Instr.box e v') w := by
  refine Makes.row (cs' := v'.cells) (el := e) (v' := asPtr ⟨w.heap.size, 0, none⟩) (w' := { w with heap := w.heap.push (.cells v'.cells e) }) hc (by rw [cells_toList]; exact hv.cells) ?_ rfl rfl rfl rfl ?_
  · simp [Instr.box, newVar, newRow, asPtr]
  · intro φ' hφ
    exact .ptr (L := ⟨w.heap.size, 0, v'.cells.size⟩) hφ

/-! Structs and arrays. -/

theorem foldl_setRow (off : Nat) : ∀ (l : List Value) (k : Nat) (C : Array Value), (l.zipIdx k).foldl (fun (cs : Array Value) (x : Value × Nat) => cs.setIfInBounds (off + x.2) x.1) C = setRow C (off + k) l
  | [], _, _ => rfl
  | v :: l, k, C => by
    simp only [List.zipIdx_cons, List.foldl_cons, setRow]
    rw [foldl_setRow off l (k + 1)]
    rfl

theorem setRow_toList {C : Array Value} {o : Nat} {vs : List Value} (h : o + vs.length ≤ C.size) : (setRow C o vs).toList = C.toList.take o ++ vs ++ C.toList.drop (o + vs.length) := by
  apply List.ext_getElem?
  intro k
  have hC : C.toList.length = C.size := by simp
  have hl : (C.toList.take o).length = o := by simp; omega
  rw [Array.getElem?_toList]
  by_cases hk : k < o
  · rw [setRow_out _ _ _ _ (.inl hk), List.append_assoc, List.getElem?_append_left (by omega)]
    simp [List.getElem?_take, hk]
  · by_cases hk2 : k < o + vs.length
    · rw [List.getElem?_append_left (by simp only [List.length_append, hl]; omega), List.getElem?_append_right (by omega), hl]
      have hkv : k - o < vs.length := by omega
      have := setRow_in vs o C (k - o) vs[k - o] h (by simp [hkv])
      rw [show o + (k - o) = k by omega] at this
      rw [this]; simp [hkv]
    · rw [List.getElem?_append_right (by simp only [List.length_append, hl]; omega)]
      simp only [List.length_append, hl, List.getElem?_drop]
      rw [setRow_out _ _ _ _ (.inr (by omega)), show o + vs.length + (k - (o + vs.length)) = k by omega]
      simp

theorem fill_sound {φ : Phi} {place : Nat → Option (Nat × Nat)} : ∀ {parts parts' : List (Nat × Value)} {cs r : List Value} {cs' : Array Value},
    fillL place cs parts = some r → Pw (fun a b => a.1 = b.1 ∧ VR φ a.2 b.2) parts parts' → VRs φ cs cs'.toList → ∃ C, Instr.fill place cs' parts' = some C ∧ VRs φ r C.toList
  | [], parts', cs, r, cs', h, hp, hc => by
    rw [hp.nil_left]
    simp [fillL] at h
    subst h
    exact ⟨cs', rfl, hc⟩
  | (i, v) :: rest, parts', cs, r, cs', h, hp, hc => by
    obtain ⟨q, rest', rfl, hq, hrest⟩ := hp.cons_left
    obtain ⟨i', v'⟩ := q
    obtain ⟨rfl, hv⟩ := hq
    simp only at hv
    simp only [fillL] at h
    cases hpl : place i with
    | none => simp [hpl] at h
    | some x =>
      obtain ⟨off, size⟩ := x
      simp only [hpl] at h
      cases hb : Nat.beq (cellsL v).length size with
      | false => simp [hb] at h
      | true =>
        simp only [hb] at h
        cases hput : putAt off (cellsL v) cs with
        | none => simp [hput] at h
        | some z =>
          simp only [hput] at h
          have hsz : (cellsL v).length = size := Nat.eq_of_beq_eq_true hb
          have hvc := hv.cells
          have hsz' : v'.cells.size = size := by rw [← Array.length_toList, cells_toList, ← hvc.1, hsz]
          obtain ⟨s1, s2, s3⟩ := putAt_spec _ _ _ _ hput
          have hle : off + (cellsL v').length ≤ cs'.size := by
            have := hc.1
            simp at this
            rw [← hvc.1, ← this]; exact s2
          have hz : VRs φ z (setRow cs' off (cellsL v')).toList := by
            rw [setRow_toList hle, s1, ← hvc.1]
            exact ((hc.take off).append hvc).append (hc.drop _)
          obtain ⟨C, h1, h2⟩ := fill_sound h hrest hz
          refine ⟨C, ?_, h2⟩
          have hcl : (cellsL v').length = v'.cells.size := by rw [← cells_toList]; simp
          have hcond : ¬ (v'.cells.size ≠ size ∨ off + v'.cells.size > cs'.size) := by omega
          have hfold : (v'.cells.zipIdx.foldl (fun cs (x : Value × Nat) => cs.setIfInBounds (off + x.2) x.1) cs') = setRow cs' off (cellsL v') := by
            rw [← Array.foldl_toList, Array.toList_zipIdx, foldl_setRow, cells_toList]
            rfl
          simp only [Instr.fill, hpl]
          have hif : (decide (v'.cells.size ≠ size) || decide (off + v'.cells.size > cs'.size)) = false := by
            simp; omega
          rw [hif]
          simp only [Bool.false_eq_true, if_false]
          exact hfold ▸ h1

theorem mapM_places {w : World} : ∀ {fs : List Field} {l : List (Nat × Nat)}, placesT E fs = some l →
    (fs.mapM (fun f => do pure (f.offset, ← sizeOf f.type) : Field → Sem (Nat × Nat))).run E.P w = .ok l w
  | [], l, h => by simp [placesT] at h; subst h; simp
  | f :: r, l, h => by
    simp only [placesT] at h
    cases hs : sizeT E f.type with
    | none => simp [hs] at h
    | some n =>
      cases hp : placesT E r with
      | none => simp [hs, hp] at h
      | some q =>
        simp [hs, hp] at h
        subst h
        simp only [List.mapM_cons, Sem.run_bind, run_sizeT hs, Result.andThen_ok, Sem.run_pure, mapM_places hp]

theorem build_sound {H : Heap} {t : TypeId} {parts parts' : List (Nat × Value)} {r : OpRes} {φ : Phi} {w : World} (h : buildOp E H t parts = some r)
    (hp : Pw (fun a b => a.1 = b.1 ∧ VR φ a.2 b.2) parts parts') : ∃ v', (∀ w : World, (Instr.build t ⟨parts'⟩).run E.P w = .ok v' w) ∧ VR φ r.v v' ∧ r = ⟨r.v, H, [], false, []⟩ := by
  unfold buildOp at h
  cases hz : zeroT E t with
  | none => simp [hz] at h
  | some z =>
    cases hu : E.P.underlying t with
    | none => simp [hz, hu] at h
    | some d =>
      cases d with
      | struct fs =>
        simp only [hz, hu] at h
        cases hpl : placesT E fs.toList with
        | none => simp [hpl] at h
        | some pl =>
          simp only [hpl] at h
          cases hf : fillL (fun i => pl[i]?) (cellsL z) parts with
          | none => simp [hf] at h
          | some l =>
            simp [hf, done] at h
            subst h
            obtain ⟨C, h1, h2⟩ := fill_sound (cs' := z.cells) hf hp (by rw [cells_toList]; exact (VR.zero hz).cells)
            refine ⟨.agg C, fun w => ?_, .agg h2.1 h2.2, rfl⟩
            have hm : (fs.mapM (fun f => do pure (f.offset, ← sizeOf f.type) : Field → Sem (Nat × Nat))).run E.P w = .ok ⟨pl⟩ w := by
              rw [← Array.toArray_toList (xs := fs)]
              rw [List.mapM_toArray]
              simp only [Sem.run_map, mapM_places hpl, Result.andThen_ok]
            simp only [Instr.build, Sem.run_bind, run_zeroT hz, Result.andThen_ok, run_underlying hu, hm]
            have : (fun x : Nat => (⟨pl⟩ : Array (Nat × Nat))[x]?) = fun (i : Nat) => pl[i]? := by funext i; simp
            rw [this, h1]
            simp
      | array k e =>
        simp only [hz, hu] at h
        cases hs : sizeT E e with
        | none => simp [hs] at h
        | some n =>
          simp only [hs] at h
          cases hf : fillL (fun i => some (i * n, n)) (cellsL z) parts with
          | none => simp [hf] at h
          | some l =>
            simp [hf, done] at h
            subst h
            obtain ⟨C, h1, h2⟩ := fill_sound (cs' := z.cells) hf hp (by rw [cells_toList]; exact (VR.zero hz).cells)
            refine ⟨.agg C, fun w => ?_, .agg h2.1 h2.2, rfl⟩
            simp [Instr.build, run_zeroT hz, run_underlying hu, run_sizeT hs, h1]
      | _ => simp [hz, hu] at h


theorem timesL_len (z : List Value) : ∀ n, (timesL z n).length = n * z.length
  | 0 => by simp [timesL]
  | n + 1 => by simp [timesL, timesL_len z n, Nat.add_mul, Nat.add_comm]

theorem timesL_get (z : List Value) : ∀ (n k : Nat), k < n * z.length → (timesL z n)[k]? = z[k % z.length]?
  | 0, k, h => by simp at h
  | n + 1, k, h => by
    rw [timesL]
    by_cases hk : k < z.length
    · rw [List.getElem?_append_left hk, Nat.mod_eq_of_lt hk]
    · rw [List.getElem?_append_right (by omega), timesL_get z n (k - z.length) (by rw [Nat.add_mul] at h; omega)]
      rw [← Nat.mod_eq_sub_mod (by omega)]

/-- The model's row of zeros. -/
theorem zeros_toList (z : Array Value) (n : Nat) (h : 0 < z.size) : ((Array.range (n * z.size)).map (z[· % z.size]!)).toList = timesL z.toList n := by
  apply List.ext_getElem?
  intro k
  simp only [Array.toList_map, Array.toList_range, List.getElem?_map]
  by_cases hk : k < n * z.size
  · rw [List.getElem?_range hk, timesL_get _ _ _ (by simpa using hk)]
    have : k % z.size < z.size := Nat.mod_lt _ h
    simp [this]
  · rw [List.getElem?_eq_none (by simp; omega), List.getElem?_eq_none (by rw [timesL_len]; simp; omega)]
    rfl

theorem VRs.times {φ : Phi} {z : List Value} (h : VRs φ z z) (n : Nat) : VRs φ (timesL z n) (timesL z n) := by
  induction n with
  | zero => exact .nil
  | succ n ih => exact h.append ih

theorem ble_spec {a b : Nat} (h : Nat.ble a b = true) : a ≤ b := by rwa [Nat.ble_eq] at h
theorem blt_spec {a b : Nat} (h : Nat.blt a b = true) : a < b := by rwa [Nat.blt_eq] at h
theorem beq_spec {a b : Nat} (h : Nat.beq a b = true) : a = b := Nat.eq_of_beq_eq_true h

theorem sliceElem_spec {t e : TypeId} (h : sliceElem E t = some e) : E.P.underlying t = some (.slice e) := by
  unfold sliceElem at h
  cases u : E.P.underlying t with
  | none => simp [u] at h
  | some d => cases d <;> simp [u] at h <;> rw [h]

theorem buildSlice_makes {φ : Phi} {t : TypeId} {len : Nat} {parts parts' : List (Nat × Value)} {H : Heap} {r : OpRes} (h : buildSliceOp E H t len parts = some r)
    (hp : Pw (fun a b => a.1 = b.1 ∧ VR φ a.2 b.2) parts parts') (w : World) :
    ∃ o, r = ⟨r.v, H.push o, [], false, []⟩ ∧ Makes E.P φ H.n o r.v (Instr.buildSlice t len ⟨parts'⟩) w := by
  unfold buildSliceOp at h
  cases he : sliceElem E t with
  | none => simp [he] at h
  | some e =>
    cases hs : sizeT E e with
    | none => simp [he, hs] at h
    | some n =>
      cases hz : zeroT E e with
      | none => simp [he, hs, hz] at h
      | some z =>
        simp only [he, hs, hz] at h
        cases hb : (Nat.ble (len * n) 16777216 && Nat.ble 1 n && Nat.beq (cellsL z).length n) with
        | false => simp [hb] at h
        | true =>
          simp only [hb] at h
          simp only [Bool.and_eq_true] at hb
          obtain ⟨⟨h1, h2⟩, h3⟩ := hb
          have h1 := ble_spec h1
          have h2 := ble_spec h2
          have h3 := beq_spec h3
          cases hf : fillL (fun i => some (i * n, n)) (timesL (cellsL z) len) parts with
          | none => simp [hf] at h
          | some l =>
            simp only [hf] at h
            obtain ⟨hc, rfl⟩ := newCells_spec h
            have hzs : z.cells.size = n := by rw [← Array.length_toList, cells_toList, h3]
            have hzero := zeros_toList z.cells len (by omega)
            rw [hzs] at hzero
            obtain ⟨C, f1, f2⟩ := fill_sound (cs' := (Array.range (len * n)).map (z.cells[· % n]!)) hf hp (by rw [hzero, cells_toList]; exact ((VR.zero hz).cells).times len)
            refine ⟨_, rfl, Makes.row (cs' := C) (el := e) (v' := .slice (some ⟨w.heap.size, 0, none⟩) len len) (w' := { w with heap := w.heap.push (.cells C e) }) hc f2 ?_ rfl rfl rfl rfl ?_⟩
            · have hnot : ¬ (len * n > 2 ^ 24) := by omega
              have hu := sliceElem_spec he
              by_cases h0 : len * n = 0
              · have : len = 0 := by
                  rcases Nat.mul_eq_zero.1 h0 with h | h
                  · exact h
                  · omega
                subst this
                have e0 : Array.range 0 = (#[] : Array Nat) := rfl
                simp only [Nat.zero_mul, e0, Array.map_empty] at f1
                simp [Instr.buildSlice, run_underlying hu, run_sizeT hs, e0, f1, newRow]
              · rw [← hzs] at f1 hnot h0
                simp [Instr.buildSlice, run_underlying hu, run_sizeT hs, h0, run_zeroT hz, f1, newRow, ← hzs, hnot]
            · intro φ' hφ
              exact .slice (L := ⟨w.heap.size, 0, C.size⟩) hφ

end Go.AM

namespace Go.AM
variable {E : Env}

theorem asNat_spec {v : Value} {n : Nat} (h : asNat v = some n) : ∃ k, v = .int k (Int.ofNat n) := by
  cases v with
  | int k m =>
    cases m with
    | ofNat m => simp [asNat] at h; subst h; exact ⟨k, rfl⟩
    | negSucc m => simp [asNat] at h
  | _ => simp [asNat] at h

theorem wrap_i64 {n : Nat} (h : n < 9223372036854775808) : IntKind.i64.wrap (n : Int) = (n : Int) := by
  have e : ((n : Int) % 2 ^ 64) = n := Int.emod_eq_of_lt (by omega) (by omega)
  simp only [IntKind.wrap, IntKind.bits, IntKind.signed]
  simp at e
  simp [e]
  omega

theorem makeSlice_makes {φ : Phi} {t : TypeId} {lv cv : Value} {H : Heap} {r : OpRes} (h : makeSliceOp E H t lv cv = some r) (w : World) :
    ∃ o, r = ⟨r.v, H.push o, [], false, []⟩ ∧ Makes E.P φ H.n o r.v (Instr.makeSlice t lv cv) w := by
  unfold makeSliceOp at h
  cases he : sliceElem E t with
  | none => simp [he] at h
  | some e =>
    cases lv with
    | int k1 l =>
      cases l with
      | negSucc l => simp [he] at h
      | ofNat l =>
        cases cv with
        | int k2 c =>
          cases c with
          | negSucc c => simp [he] at h
          | ofNat c =>
            simp only [he] at h
            cases hs : sizeT E e with
            | none => simp [hs] at h
            | some n =>
              cases hz : zeroT E e with
              | none => simp [hs, hz] at h
              | some z =>
                simp only [hs, hz] at h
                cases hb : (Nat.ble l c && Nat.ble (bytesT E e * c) 281474976710656 && Nat.ble c 281474976710656 && Nat.ble 1 n && Nat.beq (cellsL z).length n) with
                | false => simp [hb] at h
                | true =>
                  simp only [hb] at h
                  simp only [Bool.and_eq_true] at hb
                  obtain ⟨⟨⟨⟨h1, h2⟩, h3⟩, h4⟩, h5⟩ := hb
                  have h1 := ble_spec h1
                  have h2 := ble_spec h2
                  have h3 := ble_spec h3
                  have h4 := ble_spec h4
                  have h5 := beq_spec h5
                  obtain ⟨hc, rfl⟩ := newCells_spec h
                  have hu := sliceElem_spec he
                  obtain ⟨i, hi, hiz, _⟩ := zeroT_spec hz
                  have hbytes : bytesT E e = i.bytes := by simp [bytesT, hi]
                  rw [hbytes] at h2
                  have hsize : i.size = n := by simpa [sizeT, hi] using hs
                  have hzs : z.cells.size = n := by rw [← Array.length_toList, cells_toList, h5]
                  have hzero := zeros_toList z.cells c (by omega)
                  rw [hzs] at hzero
                  refine ⟨_, rfl, Makes.row (cs' := (Array.range (c * n)).map (z.cells[· % n]!)) (el := e) (v' := .slice (some ⟨w.heap.size, 0, none⟩) l c)
                    (w' := { w with heap := w.heap.push (.cells ((Array.range (c * n)).map (z.cells[· % n]!)) e) }) hc (by rw [hzero, cells_toList]; exact ((VR.zero hz).cells).times c) ?_ rfl rfl rfl rfl ?_⟩
                  · have w1 := wrap_i64 (n := l) (by omega)
                    have w2 := wrap_i64 (n := c) (by omega)
                    have hmul : ((i.bytes : Int) * (c : Int)) = ((i.bytes * c : Nat) : Int) := by simp
                    have c1 : ¬ ((281474976710656 : Int) < (i.bytes : Int) * (c : Int)) := by rw [hmul]; omega
                    have c2 : ¬ (c < l) := by omega
                    by_cases h0 : c * n = 0
                    · have hc0 : c = 0 := by
                        rcases Nat.mul_eq_zero.1 h0 with h | h
                        · exact h
                        · omega
                      subst hc0
                      have hl0 : l = 0 := by omega
                      subst hl0
                      have e0 : Array.range 0 = (#[] : Array Nat) := rfl
                      have w0 : IntKind.i64.wrap 0 = 0 := by decide
                      simp [Instr.makeSlice, run_underlying hu, asInt, asIntOf, run_info hi, w0, run_sizeT hs, newRow, e0]
                    · rw [← hzs] at h0 ⊢
                      have hs' : sizeT E e = some z.cells.size := by rw [hzs]; exact hs
                      simp [Instr.makeSlice, run_underlying hu, asInt, asIntOf, run_info hi, w1, w2, run_sizeT hs', newRow, c2, h0, run_zeroT hz]
                      rintro ((h | h) | h) <;> omega
                  · intro φ' hφ
                    exact .slice (L := ⟨w.heap.size, 0, _⟩) hφ
        | _ => simp [he] at h
    | _ => simp [he] at h

/-- What holds of an operation that touches no object. -/
def PureOp (P : Program) (φ : Phi) (H : Heap) (r : OpRes) (s : Sem Value) : Prop :=
  r = ⟨r.v, H, [], false, []⟩ ∧ ∃ v', (∀ w, s.run P w = .ok v' w) ∧ VR φ r.v v'

theorem addr_add (b o n : Nat) : (⟨b, o, none⟩ : Addr).add n = ⟨b, o + n, none⟩ := by unfold Addr.add; split <;> simp_all

theorem fieldAddr_pure {φ : Phi} {s : TypeId} {p p' : Value} {f : Nat} {H : Heap} {r : OpRes} (h : fieldAddrOp E H s p f = some r) (hp : VR φ p p') : PureOp E.P φ H r (Instr.fieldAt s p' f) := by
  unfold fieldAddrOp at h
  cases hu : E.P.underlying s with
  | none => simp [hu] at h
  | some d =>
    cases d with
    | struct fs =>
      cases hq : ptr p with
      | none => simp [hu, hq] at h
      | some x =>
        obtain ⟨i, o⟩ := x
        simp only [hu, hq] at h
        unfold fieldPlaceT at h
        cases hf : fs.toList[f]? with
        | none => simp [hf] at h
        | some fl =>
          simp only [hf] at h
          cases hs : sizeT E fl.type with
          | none => simp [hs] at h
          | some n =>
            cases n with
            | zero => simp [hs] at h
            | succ n =>
              simp [hs, done] at h
              subst h
              obtain ⟨L, hL, rfl⟩ := ptr_inv hq hp
              have hf' : fs[f]? = some fl := by simpa using hf
              refine ⟨rfl, .pointer (some ⟨L.b, L.base + (o + fl.offset), none⟩), fun w => ?_, .ptr hL⟩
              simp [Instr.fieldAt, run_underlying hu, hf', Instr.sureAddr, fieldPlace, run_sizeT hs, addr_add, Nat.add_assoc]
    | _ => simp [hu] at h

theorem indexAddr_pure {φ : Phi} {t : TypeId} {x x' ix ix' : Value} {H : Heap} {r : OpRes} (h : indexAddrOp E H t x ix = some r) (hx : VR φ x x') (hi : VR φ ix ix') : PureOp E.P φ H r (Instr.indexAt t x' ix') := by
  unfold indexAddrOp at h
  cases hn : asNat ix with
  | none => simp [hn] at h
  | some k =>
    obtain ⟨ik, rfl⟩ := asNat_spec hn
    cases hi.int_inv
    cases hu : E.P.underlying t with
    | none => simp [hn, hu] at h
    | some d =>
      cases d with
      | slice e =>
        cases x with
        | slice a len cap =>
          cases a with
          | none => simp [hn, hu] at h
          | some a =>
            obtain ⟨i, o, sp⟩ := a
            simp only [hn, hu] at h
            cases hb : Nat.blt k len with
            | false => simp [hb] at h
            | true =>
              cases hs : sizeT E e with
              | none => simp [hb, hs] at h
              | some n =>
                simp [hb, hs, done] at h
                subst h
                have hk := blt_spec hb
                cases sp with
                | none =>
                  obtain ⟨L, hL, rfl⟩ := hx.slice_inv
                  refine ⟨rfl, .pointer (some ⟨L.b, L.base + (o + k * n), none⟩), fun w => ?_, .ptr hL⟩
                  simp [Instr.indexAt, asIntOf, run_underlying hu, hk, run_sizeT hs, addr_add, Nat.add_assoc]
                | some s =>
                  obtain ⟨L, a, c, hL, rfl, h1, h2, h3⟩ := hx.opn_inv
                  rcases h3 with h3 | ⟨rfl, h3⟩
                  · omega
                  · refine ⟨rfl, .pointer (some ⟨L.b, L.base + (o + k * n), none⟩), fun w => ?_, .ptr hL⟩
                    simp [Instr.indexAt, asIntOf, run_underlying hu, hk, run_sizeT hs, addr_add, Nat.add_assoc]
        | _ => simp [hn, hu] at h
      | array len e =>
        simp only [hn, hu] at h
        cases hq : ptr x with
        | none => simp [hq] at h
        | some y =>
          obtain ⟨i, o⟩ := y
          simp only [hq] at h
          cases hb : Nat.blt k len with
          | false => simp [hb] at h
          | true =>
            cases hs : sizeT E e with
            | none => simp [hb, hs] at h
            | some n =>
              simp [hb, hs, done] at h
              subst h
              have hk := blt_spec hb
              obtain ⟨L, hL, rfl⟩ := ptr_inv hq hx
              refine ⟨rfl, .pointer (some ⟨L.b, L.base + (o + k * n), none⟩), fun w => ?_, .ptr hL⟩
              simp [Instr.indexAt, asIntOf, run_underlying hu, Instr.sureAddr, hk, run_sizeT hs, addr_add, Nat.add_assoc]
      | _ => simp [hn, hu] at h

/-- A part of a value. -/
theorem partO_sound {φ : Phi} {t : TypeId} {cs : List Value} {cs' : Array Value} {o : Nat} {v : Value} (h : partO E t cs o = some v) (hc : VRs φ cs cs'.toList) :
    ∃ v', (∀ w, (part t cs' o).run E.P w = .ok v' w) ∧ VR φ v v' := by
  unfold partO at h
  cases ha : isAggT E t with
  | none => simp [ha] at h
  | some b =>
    cases b with
    | true =>
      simp only [ha] at h
      cases hs : sizeT E t with
      | none => simp [hs] at h
      | some n =>
        simp only [hs] at h
        cases ht : takeAt o n cs with
        | none => simp [ht] at h
        | some l =>
          simp [ht] at h
          subst h
          refine ⟨.agg (cs'.extract o (o + n)), fun w => by simp [part, isAggT_spec ha, run_sizeT hs], ?_⟩
          have hl : VRs φ l ((cs'.toList.drop o).take n) := by
            obtain ⟨h1, h2⟩ := takeL_spec _ _ _ ht
            rw [h1]
            exact (Pw.drop hc o).take n
          have : (cs'.extract o (o + n)).toList = (cs'.toList.drop o).take n := by
            simp [List.take_drop, Nat.add_comm]
          exact .agg (by rw [this]; exact hl.1) (by rw [this]; exact hl.2)
    | false =>
      simp only [ha] at h
      obtain ⟨v', h1, h2⟩ := hc.get h
      exact ⟨v', fun w => by simp at h1; simp [part, isAggT_spec ha, h1], h2⟩

theorem field_pure {φ : Phi} {t : TypeId} {x x' : Value} {f : Nat} {H : Heap} {r : OpRes} (h : fieldOp E H t x f = some r) (hx : VR φ x x') : PureOp E.P φ H r (Instr.field t x' f) := by
  unfold fieldOp at h
  cases hu : E.P.underlying t with
  | none => simp [hu] at h
  | some d =>
    cases d with
    | struct fs =>
      cases x with
      | agg cs =>
        simp only [hu] at h
        cases hf : fs.toList[f]? with
        | none => simp [hf] at h
        | some fl =>
          simp only [hf] at h
          cases hp : partO E fl.type cs.toList fl.offset with
          | none => simp [hp] at h
          | some v =>
            simp [hp, done] at h
            subst h
            obtain ⟨cs', rfl, hcs⟩ := hx.agg_inv
            obtain ⟨v', h1, h2⟩ := partO_sound hp hcs
            have hf' : fs[f]? = some fl := by simpa using hf
            exact ⟨rfl, v', fun w => by simp [Instr.field, run_underlying hu, hf', asAgg, h1], h2⟩
      | _ => simp [hu] at h
    | _ => simp [hu] at h

theorem byteArray_get (s : ByteArray) (k : Nat) : s[k]? = s.data[k]? := by
  by_cases h : k < s.size
  · have h' : k < s.data.size := h
    simp [h, h', getElem?_pos]
    rfl
  · have h' : ¬ k < s.data.size := h
    rw [getElem?_neg s k h, getElem?_neg s.data k h']

theorem index_pure {φ : Phi} {t : TypeId} {x x' ix ix' : Value} {H : Heap} {r : OpRes} (h : indexOp E H t x ix = some r) (hx : VR φ x x') (hi : VR φ ix ix') : PureOp E.P φ H r (Instr.index t x' ix') := by
  unfold indexOp at h
  cases hn : asNat ix with
  | none => simp [hn] at h
  | some k =>
    obtain ⟨ik, rfl⟩ := asNat_spec hn
    cases hi.int_inv
    cases hu : E.P.underlying t with
    | none => simp [hn, hu] at h
    | some d =>
      cases d with
      | string =>
        cases x with
        | string s =>
          simp only [hn, hu] at h
          cases hk : s.data.toList[k]? with
          | none => simp [hk] at h
          | some b =>
            simp [hk, done] at h
            subst h
            cases hx.string_inv
            have hk' : s[k]? = some b := by rw [byteArray_get]; simpa using hk
            refine ⟨rfl, .int .u8 b.toNat, fun w => ?_, .atom rfl⟩
            simp [Instr.index, asIntOf, run_underlying hu, hk']
        | _ => simp [hn, hu] at h
      | array len e =>
        cases x with
        | agg cs =>
          simp only [hn, hu] at h
          cases hb : Nat.blt k len with
          | false => simp [hb] at h
          | true =>
            cases hs : sizeT E e with
            | none => simp [hb, hs] at h
            | some n =>
              simp only [hb, hs] at h
              cases hp : partO E e cs.toList (k * n) with
              | none => simp [hp] at h
              | some v =>
                simp [hp, done] at h
                subst h
                have hk := blt_spec hb
                obtain ⟨cs', rfl, hcs⟩ := hx.agg_inv
                obtain ⟨v', h1, h2⟩ := partO_sound hp hcs
                exact ⟨rfl, v', fun w => by simp [Instr.index, asIntOf, run_underlying hu, hk, run_sizeT hs, h1], h2⟩
        | _ => simp [hn, hu] at h
      | _ => simp [hn, hu] at h

/-! Slice expressions. -/

theorem sliceBound_ok {P : Program} {k : IntKind} {i y : Nat} {code : BoundsCode} (h : i ≤ y) (w : World) : (Instr.sliceBound (.int k (Int.ofNat i)) y code).run P w = .ok i w := by
  simp [Instr.sliceBound, asIntOf, h]

theorem bounds_ok {P : Program} {φ : Phi} {isSlice : Bool} {len cap l h : Nat} {lo hi lo' hi' : Option Value} (hl : boundOr lo 0 = some l) (hh : boundOr hi len = some h) (h1 : l ≤ h) (h2 : h ≤ cap)
    (rl : ∀ v, lo = some v → ∃ v', lo' = some v' ∧ VR φ v v') (rl0 : lo = none → lo' = none) (rh : ∀ v, hi = some v → ∃ v', hi' = some v' ∧ VR φ v v') (rh0 : hi = none → hi' = none) (w : World) :
    (Instr.sliceBounds isSlice len cap lo' hi' none).run P w = .ok (l, h, cap) w := by
  unfold Instr.sliceBounds
  have a1 : ∀ code, (match (generalizing := false) hi' with | some v => Instr.sliceBound v cap code | none => pure len : Sem Nat).run P w = .ok h w := by
    intro code
    cases hi with
    | none => rw [rh0 rfl]; simp [boundOr] at hh; subst hh; rfl
    | some v =>
      obtain ⟨v', e, rv⟩ := rh v rfl
      rw [e]
      simp [boundOr] at hh
      obtain ⟨k, rfl⟩ := asNat_spec hh
      cases rv.int_inv
      exact sliceBound_ok h2 w
  have a2 : (match (generalizing := false) lo' with | some v => Instr.sliceBound v h .sliceB | none => pure 0 : Sem Nat).run P w = .ok l w := by
    cases lo with
    | none => rw [rl0 rfl]; simp [boundOr] at hl; subst hl; rfl
    | some v =>
      obtain ⟨v', e, rv⟩ := rl v rfl
      rw [e]
      simp [boundOr] at hl
      obtain ⟨k, rfl⟩ := asNat_spec hl
      cases rv.int_inv
      exact sliceBound_ok h1 w
  have b1 := a1 (if isSlice = true then BoundsCode.sliceAcap else BoundsCode.sliceAlen)
  cases hi' <;> cases lo' <;> simp_all

theorem extract_toList (s : ByteArray) (l h : Nat) : s.extract l h = ⟨⟨(s.data.toList.take h).drop l⟩⟩ := by
  have : (s.extract l h).data.toList = (s.data.toList.take h).drop l := by
    rw [ByteArray.data_extract, Array.toList_extract, List.extract_eq_take_drop, List.drop_take]
  cases hs : s.extract l h with
  | mk d =>
    rw [hs] at this
    simp only at this
    rw [← this]

theorem slice_pure {φ : Phi} {t : TypeId} {x x' : Value} {lo hi mx lo' hi' mx' : Option Value} {H : Heap} {r : OpRes} (h : sliceOp E H t x lo hi mx = some r) (hx : VR φ x x')
    (rl : ∀ v, lo = some v → ∃ v', lo' = some v' ∧ VR φ v v') (rl0 : lo = none → lo' = none) (rh : ∀ v, hi = some v → ∃ v', hi' = some v' ∧ VR φ v v') (rh0 : hi = none → hi' = none) (rm : mx = none → mx' = none) :
    PureOp E.P φ H r (Instr.sliceAt t x' lo' hi' mx') := by
  unfold sliceOp at h
  cases mx with
  | some m => simp at h
  | none =>
    rw [rm rfl]
    simp only at h
    cases hu : E.P.underlying t with
    | none => simp [hu] at h
    | some d =>
      cases d with
      | string =>
        cases x with
        | string s =>
          simp only [hu] at h
          cases hl : boundOr lo 0 with
          | none => simp [hl] at h
          | some l =>
            cases hh : boundOr hi s.data.toList.length with
            | none => simp only [hl, hh] at h; cases h
            | some hg =>
              simp only [hl, hh] at h
              cases hb : (Nat.ble l hg && Nat.ble hg s.data.toList.length) with
              | false => simp only [hb] at h; cases h
              | true =>
                simp only [hb, done, Option.some.injEq] at h
                subst h
                simp only [Bool.and_eq_true] at hb
                have h1 := ble_spec hb.1
                have h2 := ble_spec hb.2
                have hsz : s.data.toList.length = s.size := by rw [Array.length_toList]; rfl
                cases hx.string_inv
                rw [hsz] at hh h2
                have hbd := fun w => bounds_ok (P := E.P) (isSlice := false) hl hh h1 h2 rl rl0 rh rh0 w
                refine ⟨rfl, _, fun w => ?_, .atom (v := .string ⟨⟨(s.data.toList.take hg).drop l⟩⟩) rfl⟩
                simp only [Instr.sliceAt, Sem.run_bind, run_underlying hu, Result.andThen_ok, Instr.slice, Option.isSome_none, Bool.false_eq_true, if_false, hbd, Sem.run_pure, extract_toList]
        | _ => simp [hu] at h
      | slice e =>
        cases x with
        | slice a len cap =>
          simp only [hu] at h
          cases hl : boundOr lo 0 with
          | none => simp [hl] at h
          | some l =>
            cases hh : boundOr hi len with
            | none => simp [hl, hh] at h
            | some hg =>
              cases hs : sizeT E e with
              | none => simp [hl, hh, hs] at h
              | some n =>
                simp only [hl, hh, hs] at h
                cases a with
                | none =>
                  simp only at h
                  cases hb : (Nat.ble l hg && Nat.ble hg cap) with
                  | false => simp [hb] at h
                  | true =>
                    simp [hb, done] at h
                    subst h
                    simp only [Bool.and_eq_true] at hb
                    have h1 := ble_spec hb.1
                    have h2 := ble_spec hb.2
                    cases hx.nilSlice_inv
                    have hbd := fun w => bounds_ok (P := E.P) (isSlice := true) hl hh h1 h2 rl rl0 rh rh0 w
                    refine ⟨rfl, _, fun w => ?_, .atom (v := .slice none (hg - l) (cap - l)) rfl⟩
                    simp [Instr.sliceAt, run_underlying hu, Instr.slice, hbd, run_sizeT hs]
                | some a =>
                  obtain ⟨i, o, sp⟩ := a
                  cases sp with
                  | none =>
                    simp only at h
                    cases hb : (Nat.ble l hg && Nat.ble hg cap) with
                    | false => simp [hb] at h
                    | true =>
                      simp only [hb, done, Option.some.injEq] at h
                      subst h
                      simp only [Bool.and_eq_true] at hb
                      have h1 := ble_spec hb.1
                      have h2 := ble_spec hb.2
                      obtain ⟨L, hL, rfl⟩ := hx.slice_inv
                      have hbd := fun w => bounds_ok (P := E.P) (isSlice := true) hl hh h1 h2 rl rl0 rh rh0 w
                      by_cases hcl : cap = l
                      · have hq : Nat.beq cap l = true := by rw [hcl]; exact Nat.beq_refl l
                        refine ⟨rfl, .slice (some ⟨L.b, L.base + o, none⟩) (hg - l) (cap - l), fun w => ?_, ?_⟩
                        · have hb' := hbd w
                          rw [hcl] at hb'
                          simp [Instr.sliceAt, run_underlying hu, Instr.slice, hb', run_sizeT hs, hcl]
                        · simp only [hq]; exact .slice hL
                      · have hq : Nat.beq cap l = false := by
                          cases e : Nat.beq cap l with
                          | false => rfl
                          | true => exact absurd (beq_spec e) hcl
                        refine ⟨rfl, .slice (some ⟨L.b, L.base + (o + l * n), none⟩) (hg - l) (cap - l), fun w => ?_, ?_⟩
                        · simp [Instr.sliceAt, run_underlying hu, Instr.slice, hbd, run_sizeT hs, hcl, addr_add, Nat.add_assoc]
                        · simp only [hq]; exact .slice hL
                  | some s =>
                    simp only at h
                    cases hb : (Nat.ble l hg && Nat.ble hg len && Nat.beq s n) with
                    | false => simp [hb] at h
                    | true =>
                      simp only [hb, done, Option.some.injEq] at h
                      subst h
                      simp only [Bool.and_eq_true] at hb
                      have h1 := ble_spec hb.1.1
                      have h2 := ble_spec hb.1.2
                      have h3 := beq_spec hb.2
                      obtain ⟨L, a, c, hL, rfl, g1, g2, g3⟩ := hx.opn_inv
                      have hbd := fun w => bounds_ok (P := E.P) (isSlice := true) (cap := c) hl hh h1 (by omega) rl rl0 rh rh0 w
                      by_cases hcl : c = l
                      · refine ⟨rfl, .slice (some a) (hg - l) (c - l), fun w => ?_, .opn hL (by omega) g2 (.inl (by omega))⟩
                        have hb' := hbd w
                        rw [hcl] at hb'
                        simp [Instr.sliceAt, run_underlying hu, Instr.slice, hb', run_sizeT hs, hcl]
                      · rcases g3 with g3 | ⟨rfl, g3⟩
                        · omega
                        · refine ⟨rfl, .slice (some ⟨L.b, L.base + (o + l * n), none⟩) (hg - l) (c - l), fun w => ?_, .opn hL (by omega) rfl ?_⟩
                          · simp [Instr.sliceAt, run_underlying hu, Instr.slice, hbd, run_sizeT hs, hcl, addr_add, Nat.add_assoc]
                          · refine .inr ⟨rfl, ?_⟩
                            rw [← g3, h3, Nat.sub_mul]
                            have : l * n ≤ c * n := Nat.mul_le_mul_right _ (by omega)
                            omega
        | _ => simp [hu] at h
      | array len e =>
        simp only [hu] at h
        cases hq : ptr x with
        | none => simp [hq] at h
        | some y =>
          obtain ⟨i, o⟩ := y
          cases hl : boundOr lo 0 with
          | none => simp [hq, hl] at h
          | some l =>
            cases hh : boundOr hi len with
            | none => simp [hq, hl, hh] at h
            | some hg =>
              cases hs : sizeT E e with
              | none => simp [hq, hl, hh, hs] at h
              | some n =>
                simp only [hq, hl, hh, hs] at h
                cases hb : (Nat.ble l hg && Nat.ble hg len) with
                | false => simp [hb] at h
                | true =>
                  simp only [hb, done, Option.some.injEq] at h
                  subst h
                  simp only [Bool.and_eq_true] at hb
                  have h1 := ble_spec hb.1
                  have h2 := ble_spec hb.2
                  obtain ⟨L, hL, rfl⟩ := ptr_inv hq hx
                  have hbd := fun w => bounds_ok (P := E.P) (isSlice := false) hl hh h1 h2 rl rl0 rh rh0 w
                  by_cases hcl : len = l
                  · have hq : Nat.beq len l = true := by rw [hcl]; exact Nat.beq_refl l
                    refine ⟨rfl, .slice (some ⟨L.b, L.base + o, none⟩) (hg - l) (len - l), fun w => ?_, ?_⟩
                    · have hb' := hbd w
                      rw [hcl] at hb'
                      simp [Instr.sliceAt, run_underlying hu, Instr.sureAddr, hb', run_sizeT hs, hcl]
                    · simp only [hq]; exact .slice hL
                  · have hq : Nat.beq len l = false := by
                      cases e : Nat.beq len l with
                      | false => rfl
                      | true => exact absurd (beq_spec e) hcl
                    refine ⟨rfl, .slice (some ⟨L.b, L.base + (o + l * n), none⟩) (hg - l) (len - l), fun w => ?_, ?_⟩
                    · simp [Instr.sliceAt, run_underlying hu, Instr.sureAddr, hbd, run_sizeT hs, hcl, addr_add, Nat.add_assoc]
                    · simp only [hq]; exact .slice hL
      | _ => simp [hu] at h

end Go.AM

namespace Go.AM
variable {E : Env}

theorem wrapF_eq (k : IntKind) (n : Int) : wrapF k n = k.wrap n := by
  cases k with
  | i64 =>
    have h1 : 0 ≤ n % 18446744073709551616 := Int.emod_nonneg _ (by decide)
    obtain ⟨m, hm⟩ := Int.eq_ofNat_of_zero_le h1
    have hm' : n % 18446744073709551616 = Int.ofNat m := hm
    have e : n % (2 : Int) ^ 64 = (m : Int) := hm
    have hw : IntKind.wrap .i64 n = if (m : Int) ≥ 9223372036854775808 then (m : Int) - 18446744073709551616 else m := by
      simp only [IntKind.wrap, IntKind.bits, IntKind.signed]
      simp at e
      simp [e]
    rw [hw]
    simp only [wrapF, hm']
    cases hb : Nat.blt m 9223372036854775808 with
    | true =>
      have := blt_spec hb
      simp
      omega
    | false =>
      have hge : ¬ m < 9223372036854775808 := fun h => by rw [← Nat.blt_eq] at h; rw [h] at hb; cases hb
      simp
      omega
  | u64 => simp [wrapF, IntKind.wrap, IntKind.bits, IntKind.signed]
  | u32 => simp [wrapF, IntKind.wrap, IntKind.bits, IntKind.signed]
  | u8 => simp [wrapF, IntKind.wrap, IntKind.bits, IntKind.signed]
  | i32 =>
    have h1 : 0 ≤ n % 4294967296 := Int.emod_nonneg _ (by decide)
    obtain ⟨m, hm⟩ := Int.eq_ofNat_of_zero_le h1
    have hm' : n % 4294967296 = Int.ofNat m := hm
    have e : n % (2 : Int) ^ 32 = (m : Int) := hm
    have hw : IntKind.wrap .i32 n = if (m : Int) ≥ 2147483648 then (m : Int) - 4294967296 else m := by
      simp only [IntKind.wrap, IntKind.bits, IntKind.signed]
      simp at e
      simp [e]
    rw [hw]
    simp only [wrapF, hm']
    cases hb : Nat.blt m 2147483648 with
    | true =>
      have := blt_spec hb
      simp
      omega
    | false =>
      have hge : ¬ m < 2147483648 := fun h => by rw [← Nat.blt_eq] at h; rw [h] at hb; cases hb
      simp
      omega
  | i8 => rfl
  | i16 => rfl
  | u16 => rfl

theorem toU_eq (k : IntKind) (n : Int) : (BitVec.ofInt k.bits n).toNat = toU k n := by
  rw [BitVec.toNat_ofInt]
  cases k <;> rfl

theorem onesU_eq (k : IntKind) : (BitVec.ofInt k.bits (if k.signed then -1 else k.max)).toNat = onesU k := by
  rw [BitVec.toNat_ofInt]
  cases k <;> rfl

theorem intBin_sound {P : Program} {op : BinOp} {k : IntKind} {a b : Int} {v : Value} {t : TypeId} (h : intBin op k a b = some v) (w : World) : (binOp op t (.int k a) (.int k b)).run P w = .ok v w := by
  cases op <;> simp only [intBin] at h <;> try (cases h; done)
  case add => cases h; simp [binOp, Op.intArith, wrapF_eq]
  case sub => cases h; simp [binOp, Op.intArith, wrapF_eq]
  case mul => cases h; simp [binOp, Op.intArith, wrapF_eq]
  case quo =>
    by_cases hb : b = 0
    · simp [hb] at h
    · simp [hb] at h; cases h; simp [binOp, Op.intDiv, hb, wrapF_eq]
  case rem =>
    by_cases hb : b = 0
    · simp [hb] at h
    · simp [hb] at h; cases h; simp [binOp, Op.intDiv, hb]
  case and =>
    cases h
    simp only [binOp, ne_eq, not_true_eq_false, if_false, Op.intBits, BitVec.toNat_and, BitVec.toNat_or, BitVec.toNat_xor, toU_eq, wrapF_eq, Sem.run_pure]
    rfl
  case or =>
    cases h
    simp only [binOp, ne_eq, not_true_eq_false, if_false, Op.intBits, BitVec.toNat_and, BitVec.toNat_or, BitVec.toNat_xor, toU_eq, wrapF_eq, Sem.run_pure]
    rfl
  case xor =>
    cases h
    simp only [binOp, ne_eq, not_true_eq_false, if_false, Op.intBits, BitVec.toNat_and, BitVec.toNat_or, BitVec.toNat_xor, toU_eq, wrapF_eq, Sem.run_pure]
    rfl
  case eql => cases h; simp [binOp, Op.intCmp]; rfl
  case neq => cases h; simp [binOp, Op.intCmp]; rfl
  case lss => cases h; simp [binOp, Op.intCmp]
  case leq => cases h; simp [binOp, Op.intCmp]
  case gtr => cases h; simp [binOp, Op.intCmp]
  case geq => cases h; simp [binOp, Op.intCmp]

theorem shift_sound {P : Program} {op : BinOp} {k k' : IntKind} {a b : Int} {v : Value} {t : TypeId} (h : shiftBin op k a b = some v) (w : World) : (binOp op t (.int k a) (.int k' b)).run P w = .ok v w := by
  cases b with
  | negSucc b => simp [shiftBin] at h
  | ofNat n =>
    have hn : ¬ ((n : Int) < 0) := by omega
    cases op <;> simp only [shiftBin] at h <;> try (cases h; done)
    case shl => cases h; simp [binOp, Op.shift, wrapF_eq, hn]
    case shr => cases h; simp [binOp, Op.shift, hn, shrF_eq]

theorem toList_data (s : ByteArray) : s.toList = s.data.toList := ByteArray.toList_eq s

theorem bytesLt_eq : ∀ (a b : List UInt8), bytesLt a b = Op.bytesLess a b
  | _, [] => by cases ‹List UInt8› <;> rfl
  | [], _ :: _ => rfl
  | a :: x, b :: y => by
    have ih := bytesLt_eq x y
    simp only [bytesLt, Op.bytesLess, ih]
    by_cases h : a.toNat < b.toNat
    · have h1 : Nat.blt a.toNat b.toNat = true := by rw [Nat.blt_eq]; exact h
      have h2 : a < b := UInt8.lt_iff_toNat_lt.2 h
      simp [h1, h2]
    · have h1 : Nat.blt a.toNat b.toNat = false := by
        cases e : Nat.blt a.toNat b.toNat with
        | false => rfl
        | true => exact absurd (blt_spec e) h
      have h2 : ¬ a < b := fun q => h (UInt8.lt_iff_toNat_lt.1 q)
      simp only [h1, decide_eq_false h2, Bool.false_or]
      by_cases e : a = b
      · subst e
        have : Nat.beq a.toNat a.toNat = true := Nat.beq_refl _
        simp [this]
      · have h3 : Nat.beq a.toNat b.toNat = false := by
          cases q : Nat.beq a.toNat b.toNat with
          | false => rfl
          | true => exact absurd (UInt8.toNat_inj.1 (beq_spec q)) e
        have h4 : (a == b) = false := by simpa using e
        simp [h3, h4]

theorem strBin_sound {P : Program} {op : BinOp} {a b : ByteArray} {v : Value} {t : TypeId} (h : strBin op a b = some v) (w : World) : (binOp op t (.string a) (.string b)).run P w = .ok v w := by
  have ha : a.data.toList.length = a.size := by rw [Array.length_toList]; rfl
  have hb : b.data.toList.length = b.size := by rw [Array.length_toList]; rfl
  have hd : ∀ x y : List UInt8, (x == y) = decide (x = y) := fun x y => by
    by_cases e : x = y <;> simp [e]
  cases op <;> simp only [strBin] at h <;> try (cases h; done)
  case add =>
    cases hc : Nat.ble (a.data.toList.length + b.data.toList.length) 9223372036854775807 with
    | false => simp only [hc] at h; cases h
    | true =>
      simp only [hc, Option.some.injEq] at h
      subst h
      have hle := ble_spec hc
      rw [ha, hb] at hle
      have hmax : IntKind.i64.max = 9223372036854775807 := by decide
      have hnot : ¬ (((a.size + b.size : Nat) : Int) > IntKind.i64.max) := by rw [hmax]; omega
      have happ : a ++ b = ⟨⟨a.data.toList ++ b.data.toList⟩⟩ := by
        have : (a ++ b).data.toList = a.data.toList ++ b.data.toList := by simp
        cases hs : a ++ b with
        | mk d => rw [hs] at this; simp only at this; rw [← this]
      simp only [binOp, Op.stringOp, hnot, if_false, happ]
      rfl
  all_goals
    cases h
    simp [binOp, Op.stringOp, toList_data, bytesLt_eq, hd]

/-- Types whose values are compared cell by cell. -/
def EqOk (P : Program) (t : TypeId) (ks : List CK) : Prop :=
  P.eqGuardType P.depth t = false ∧ ∀ (xs ys : Array Value) (b : Bool) (w : World), kindsOk ks xs.toList = true → eqCells xs.toList ys.toList = some b →
    (Op.equal t (.agg xs) (.agg ys)).run P w = .ok b w

theorem eqCell_inv {φ : Phi} {a b a' b' : Value} {r : Bool} (h : eqCell a b = some r) (ra : VR φ a a') (rb : VR φ b b') : a' = a ∧ b' = b := by
  cases a <;> cases b <;> simp [eqCell] at h
  case bool.bool => exact ⟨ra.bool_inv, rb.bool_inv⟩
  case int.int => exact ⟨ra.int_inv, rb.int_inv⟩
  case string.string => exact ⟨ra.string_inv, rb.string_inv⟩

theorem eqCells_inv {φ : Phi} : ∀ {a b a' b' : List Value} {r : Bool}, eqCells a b = some r → VRs φ a a' → VRs φ b b' → a' = a ∧ b' = b
  | [], [], a', b', r, h, ra, rb => ⟨ra.nil_left, rb.nil_left⟩
  | [], _ :: _, _, _, _, h, _, _ => by simp [eqCells] at h
  | _ :: _, [], _, _, _, h, _, _ => by simp [eqCells] at h
  | x :: a, y :: b, a', b', r, h, ra, rb => by
    obtain ⟨x', a'', rfl, rx, ra'⟩ := ra.cons_left
    obtain ⟨y', b'', rfl, ry, rb'⟩ := rb.cons_left
    simp only [eqCells] at h
    cases hc : eqCell x y with
    | none => simp [hc] at h
    | some p =>
      cases hcs : eqCells a b with
      | none => simp [hc, hcs] at h
      | some q =>
        obtain ⟨rfl, rfl⟩ := eqCell_inv hc rx ry
        obtain ⟨rfl, rfl⟩ := eqCells_inv hcs ra' rb'
        exact ⟨rfl, rfl⟩

theorem equal_eq (t : TypeId) (x y : Value) : Op.equal t x y = Op.equalIn (9999 + 1) t x y := rfl

section
variable {P : Program} {t : TypeId} (d : Nat) (w : World)
theorem equalIn_bool (a b : Bool) (hu : P.underlying t = some .bool) : (Op.equalIn (d + 1) t (.bool a) (.bool b)).run P w = .ok (a == b) w := by simp [Op.equalIn, run_underlying hu]
theorem equalIn_nilPtr {e : TypeId} (b : Option Addr) (hu : P.underlying t = some (.pointer e)) : (Op.equalIn (d + 1) t (.pointer none) (.pointer b)).run P w = .ok b.isNone w := by simp [Op.equalIn, run_underlying hu]
theorem equalIn_ptrNil {e : TypeId} (a : Addr) (hu : P.underlying t = some (.pointer e)) : (Op.equalIn (d + 1) t (.pointer (some a)) (.pointer none)).run P w = .ok false w := by simp [Op.equalIn, run_underlying hu]
theorem equalIn_nilSlice {e : TypeId} (n c : Nat) (b : Option Addr) (m k : Nat) (hu : P.underlying t = some (.slice e)) : (Op.equalIn (d + 1) t (.slice none n c) (.slice b m k)).run P w = .ok b.isNone w := by simp [Op.equalIn, run_underlying hu]
theorem equalIn_sliceNil {e : TypeId} (n c : Nat) (a : Addr) (m k : Nat) (hu : P.underlying t = some (.slice e)) : (Op.equalIn (d + 1) t (.slice (some a) n c) (.slice none m k)).run P w = .ok false w := by simp [Op.equalIn, run_underlying hu]
theorem equalIn_func1 {p r : Array TypeId} {v : Bool} (hu : P.underlying t = some (.func p r v)) : (Op.equalIn (d + 1) t .nilFunc .nilFunc).run P w = .ok true w := by simp [Op.equalIn, run_underlying hu]
theorem equalIn_func2 {p r : Array TypeId} {v : Bool} (fn : Fn) (a b : Array Value) (hu : P.underlying t = some (.func p r v)) : (Op.equalIn (d + 1) t .nilFunc (.func fn a b)).run P w = .ok false w := by simp [Op.equalIn, run_underlying hu]
theorem equalIn_func3 {p r : Array TypeId} {v : Bool} (fn : Fn) (a b : Array Value) (hu : P.underlying t = some (.func p r v)) : (Op.equalIn (d + 1) t (.func fn a b) .nilFunc).run P w = .ok false w := by simp [Op.equalIn, run_underlying hu]
end

theorem eqBin_sound {φ : Phi} {t : TypeId} {x y x' y' : Value} {b : Bool} (hE : ∀ t ks, E.eqs t = some ks → EqOk E.P t ks) (h : eqBin E t x y = some b) (hx : VR φ x x') (hy : VR φ y y')
    (op : BinOp) (xo yo : Operand) (w : World) : (eqGuard op t xo yo x' y').run E.P w = .ok () w ∧ (Op.equal t x' y').run E.P w = .ok b w ∧ (∀ z : BinOp, (z = .eql ∨ z = .neq) → binOp z t x' y' = if z = .eql then (do pure (.bool (← Op.equal t x' y'))) else (do pure (.bool (!(← Op.equal t x' y'))))) := by
  cases x <;> cases y <;> try (simp [eqBin] at h; done)
  case bool.bool a c =>
    cases hx.bool_inv
    cases hy.bool_inv
    cases hu : E.P.underlying t with
    | none => simp [eqBin, hu] at h
    | some d =>
      cases d <;> simp [eqBin, hu] at h
      subst h
      refine ⟨by cases op <;> rfl, by rw [equal_eq]; exact equalIn_bool _ w _ _ hu, fun z hz => ?_⟩
      rcases hz with rfl | rfl <;> rfl
  case agg.agg a c =>
    obtain ⟨a', rfl, ra⟩ := hx.agg_inv
    obtain ⟨c', rfl, rc⟩ := hy.agg_inv
    simp only [eqBin] at h
    cases he : E.eqs t with
    | none => simp [he] at h
    | some ks =>
      simp only [he] at h
      cases hb : kindsOk ks a.toList with
      | false => simp only [hb] at h; cases h
      | true =>
        simp only [hb] at h
        obtain ⟨h1, h2⟩ := hE t ks he
        obtain ⟨e1, e2⟩ := eqCells_inv h ra rc
        have q1 : a' = a := by cases a; cases a'; simpa using e1
        have q2 : c' = c := by cases c; cases c'; simpa using e2
        subst q1; subst q2
        refine ⟨?_, h2 a' c' b w hb h, fun z hz => ?_⟩
        · cases op <;> simp [eqGuard, h1]
        · rcases hz with rfl | rfl <;> rfl
  case pointer.pointer a c =>
    cases a with
    | none =>
      cases hx.nilPtr_inv
      have : ∃ c', y' = .pointer c' ∧ c'.isNone = c.isNone := by
        cases c with
        | none => cases hy.nilPtr_inv; exact ⟨none, rfl, rfl⟩
        | some a =>
          obtain ⟨p, q, s⟩ := a
          cases s with
          | none => obtain ⟨L, _, rfl⟩ := hy.ptr_inv; exact ⟨_, rfl, rfl⟩
          | some s => cases hy with | atom h => simp [atomV] at h
      obtain ⟨c', rfl, hc⟩ := this
      cases hu : E.P.underlying t with
      | none => simp [eqBin, hu] at h
      | some d =>
        cases d <;> simp [eqBin, hu] at h
        subst h
        refine ⟨by cases op <;> rfl, by rw [equal_eq, ← hc]; exact equalIn_nilPtr _ w _ hu, fun z hz => ?_⟩
        rcases hz with rfl | rfl <;> cases c' <;> rfl
    | some a =>
      cases c with
      | some c => simp [eqBin] at h
      | none =>
        cases hy.nilPtr_inv
        obtain ⟨p, q, s⟩ := a
        cases s with
        | some s => cases hx with | atom h => simp [atomV] at h
        | none =>
          obtain ⟨L, _, rfl⟩ := hx.ptr_inv
          cases hu : E.P.underlying t with
          | none => simp [eqBin, hu] at h
          | some d =>
            cases d <;> simp [eqBin, hu] at h
            subst h
            refine ⟨by cases op <;> rfl, by rw [equal_eq]; exact equalIn_ptrNil _ w _ hu, fun z hz => ?_⟩
            rcases hz with rfl | rfl <;> rfl
  case slice.slice a n m c n' m' =>
    cases a with
    | none =>
      cases hx.nilSlice_inv
      have : ∃ c' k k', y' = .slice c' k k' ∧ c'.isNone = c.isNone := by
        cases c with
        | none => cases hy.nilSlice_inv; exact ⟨none, _, _, rfl, rfl⟩
        | some a =>
          obtain ⟨p, q, s⟩ := a
          cases s with
          | none => obtain ⟨L, _, rfl⟩ := hy.slice_inv; exact ⟨_, _, _, rfl, rfl⟩
          | some s => obtain ⟨L, _, _, _, rfl, _⟩ := hy.opn_inv; exact ⟨_, _, _, rfl, rfl⟩
      obtain ⟨c', k, k', rfl, hc⟩ := this
      cases hu : E.P.underlying t with
      | none => simp [eqBin, hu] at h
      | some d =>
        cases d <;> simp [eqBin, hu] at h
        subst h
        refine ⟨by cases op <;> rfl, by rw [equal_eq, ← hc]; exact equalIn_nilSlice _ w _ _ _ _ _ hu, fun z hz => ?_⟩
        rcases hz with rfl | rfl <;> rfl
    | some a =>
      cases c with
      | some c => simp [eqBin] at h
      | none =>
        cases hy.nilSlice_inv
        have : ∃ c' k k', x' = .slice (some c') k k' := by
          obtain ⟨p, q, s⟩ := a
          cases s with
          | none => obtain ⟨L, _, rfl⟩ := hx.slice_inv; exact ⟨_, _, _, rfl⟩
          | some s => obtain ⟨L, _, _, _, rfl, _⟩ := hx.opn_inv; exact ⟨_, _, _, rfl⟩
        obtain ⟨c', k, k', rfl⟩ := this
        cases hu : E.P.underlying t with
        | none => simp [eqBin, hu] at h
        | some d =>
          cases d <;> simp [eqBin, hu] at h
          subst h
          refine ⟨by cases op <;> rfl, by rw [equal_eq]; exact equalIn_sliceNil _ w _ _ _ _ _ hu, fun z hz => ?_⟩
          rcases hz with rfl | rfl <;> rfl
  case func.nilFunc fn a c =>
    obtain ⟨a', c', rfl, _⟩ := hx.func_inv
    cases hy with | atom _ =>
    cases hu : E.P.underlying t with
    | none => simp [eqBin, hu] at h
    | some d =>
      cases d <;> simp [eqBin, hu] at h
      subst h
      refine ⟨by cases op <;> rfl, by rw [equal_eq]; exact equalIn_func3 _ w _ _ _ hu, fun z hz => ?_⟩
      rcases hz with rfl | rfl <;> rfl
  case nilFunc.func fn a c =>
    obtain ⟨a', c', rfl, _⟩ := hy.func_inv
    cases hx with | atom _ =>
    cases hu : E.P.underlying t with
    | none => simp [eqBin, hu] at h
    | some d =>
      cases d <;> simp [eqBin, hu] at h
      subst h
      refine ⟨by cases op <;> rfl, by rw [equal_eq]; exact equalIn_func2 _ w _ _ _ hu, fun z hz => ?_⟩
      rcases hz with rfl | rfl <;> rfl
  case nilFunc.nilFunc =>
    cases hx with | atom _ =>
    cases hy with | atom _ =>
    cases hu : E.P.underlying t with
    | none => simp [eqBin, hu] at h
    | some d =>
      cases d <;> simp [eqBin, hu] at h
      subst h
      refine ⟨by cases op <;> rfl, by rw [equal_eq]; exact equalIn_func1 _ w hu, fun z hz => ?_⟩
      rcases hz with rfl | rfl <;> rfl

end Go.AM

namespace Go.AM
variable {E : Env}

theorem PureOp.mk' {P : Program} {φ : Phi} {H : Heap} {v v' : Value} {s : Sem Value} (hr : ∀ w, s.run P w = .ok v' w) (hv : VR φ v v') : PureOp P φ H ⟨v, H, [], false, []⟩ s := ⟨rfl, v', hr, hv⟩

theorem eqGuard_int {P : Program} (op : BinOp) (t : TypeId) (xo yo : Operand) (k k' : IntKind) (a b : Int) (w : World) : (eqGuard op t xo yo (.int k a) (.int k' b)).run P w = .ok () w := by
  cases op <;> rfl
theorem eqGuard_string {P : Program} (op : BinOp) (t : TypeId) (xo yo : Operand) (a b : ByteArray) (w : World) : (eqGuard op t xo yo (.string a) (.string b)).run P w = .ok () w := by
  cases op <;> rfl

theorem done_spec {v : Value} {H : Heap} {r : OpRes} (h : done v H = some r) : r = ⟨v, H, [], false, []⟩ := by simp [done] at h; exact h.symm

theorem binOp_pure {φ : Phi} {op : BinOp} {t : TypeId} {x y x' y' : Value} {H : Heap} {r : OpRes} (hE : ∀ t ks, E.eqs t = some ks → EqOk E.P t ks) (h : binOpOp E H op t x y = some r) (hx : VR φ x x') (hy : VR φ y y') (xo yo : Operand) :
    PureOp E.P φ H r (do eqGuard op t xo yo x' y'; binOp op t x' y') := by
  unfold binOpOp at h
  split at h
  · rename_i k a k' b
    cases hx.int_inv
    cases hy.int_inv
    have key : ∀ v : Value, (∀ w, (binOp op t (.int k a) (.int k' b)).run E.P w = .ok v w) → atomV v = true → done v H = some r → PureOp E.P φ H r (do eqGuard op t xo yo (.int k a) (.int k' b); binOp op t (.int k a) (.int k' b)) := by
      intro v hv ha hd
      rw [done_spec hd]
      refine .mk' (v' := v) (fun w => ?_) (.atom ha)
      simp only [Sem.run_bind, eqGuard_int, Result.andThen_ok, hv]
    have atomI : ∀ {v}, intBin op k a b = some v → atomV v = true := by
      intro v hv
      cases op <;> simp only [intBin] at hv <;> first | (cases hv; done) | (cases hv; rfl) | (split at hv <;> first | (cases hv; done) | (cases hv; rfl))
    have atomS : ∀ {v}, shiftBin op k a b = some v → atomV v = true := by
      intro v hv
      cases b <;> cases op <;> simp only [shiftBin] at hv <;> first | (cases hv; done) | (cases hv; rfl)
    split at h
    · cases hs : shiftBin .shl k a b with
      | none => simp [hs] at h
      | some v => simp only [hs] at h; exact key v (shift_sound hs) (atomS hs) h
    · cases hs : shiftBin .shr k a b with
      | none => simp [hs] at h
      | some v => simp only [hs] at h; exact key v (shift_sound hs) (atomS hs) h
    · by_cases hk : k = k'
      · subst hk
        simp only [decide_true] at h
        cases hs : intBin op k a b with
        | none => simp [hs] at h
        | some v => simp only [hs] at h; exact key v (intBin_sound hs) (atomI hs) h
      · simp [hk] at h
  · rename_i a b
    cases hx.string_inv
    cases hy.string_inv
    cases hs : strBin op a b with
    | none => simp [hs] at h
    | some v =>
      simp only [hs] at h
      rw [done_spec h]
      refine .mk' (v' := v) (fun w => ?_) (.atom ?_)
      · simp only [Sem.run_bind, eqGuard_string, Result.andThen_ok, strBin_sound hs]
      · cases op <;> simp only [strBin] at hs <;> first | (cases hs; done) | (cases hs; rfl) | (split at hs <;> first | (cases hs; done) | (cases hs; rfl))
  · split at h
    · cases hs : eqBin E t x y with
      | none => simp [hs] at h
      | some b =>
        simp only [hs] at h
        rw [done_spec h]
        refine .mk' (v' := .bool b) (fun w => ?_) (.atom rfl)
        obtain ⟨e1, e2, e3⟩ := eqBin_sound hE hs hx hy .eql xo yo w
        rw [e3 .eql (.inl rfl)]
        simp [e1, e2]
    · cases hs : eqBin E t x y with
      | none => simp [hs] at h
      | some b =>
        simp only [hs] at h
        rw [done_spec h]
        refine .mk' (v' := .bool (!b)) (fun w => ?_) (.atom rfl)
        obtain ⟨e1, e2, e3⟩ := eqBin_sound hE hs hx hy .neq xo yo w
        rw [e3 .neq (.inr rfl)]
        simp [e1, e2]
    · cases h

theorem unOp_pure {φ : Phi} {op : UnOp} {x x' : Value} {H : Heap} {r : OpRes} (h : unOpOp H op x = some r) (hx : VR φ x x') : PureOp E.P φ H r (Op.unary op x') := by
  unfold unOpOp at h
  split at h
  · rename_i k n
    cases hx.int_inv
    rw [done_spec h]
    exact .mk' (v' := .int k (wrapF k (0 - n))) (fun w => by simp [Op.unary, Op.intArith, wrapF_eq]) (.atom rfl)
  · rename_i b
    cases hx.bool_inv
    rw [done_spec h]
    exact .mk' (v' := .bool !b) (fun w => rfl) (.atom rfl)
  · rename_i k n
    cases hx.int_inv
    rw [done_spec h]
    refine .mk' (v' := .int k (wrapF k (.ofNat (Nat.xor (onesU k) (toU k n))))) (fun w => ?_) (.atom rfl)
    have hones : toU k (if k.signed = true then -1 else k.max) = onesU k := by cases k <;> rfl
    simp only [Op.unary, Op.intBits, BitVec.toNat_xor, toU_eq, hones, wrapF_eq, Sem.run_pure]
    rfl
  · cases h

theorem extract_pure {φ : Phi} {x x' : Value} {k : Nat} {H : Heap} {r : OpRes} (h : (match x with | .tuple vs => (match vs.toList[k]? with | some v => done v H | none => none) | _ => none : Option OpRes) = some r) (hx : VR φ x x') :
    PureOp E.P φ H r (Instr.extract x' k) := by
  cases x with
  | tuple vs =>
    simp only at h
    obtain ⟨vs', rfl, hv⟩ := hx.tuple_inv
    cases hk : vs.toList[k]? with
    | none => simp [hk] at h
    | some v =>
      simp only [hk] at h
      rw [done_spec h]
      obtain ⟨v', h1, h2⟩ := hv.get hk
      exact .mk' (fun w => by simp at h1; simp [Instr.extract, h1]) h2
  | _ => simp at h

theorem makeInterface_pure {φ : Phi} {t : TypeId} {x x' : Value} {H : Heap} {r : OpRes} (h : (match E.P.underlying t with | some (.interface _) => none | some _ => done (.iface t x) H | none => none : Option OpRes) = some r) (hx : VR φ x x') :
    PureOp E.P φ H r (Instr.makeInterface t x') := by
  cases hu : E.P.underlying t with
  | none => simp [hu] at h
  | some d =>
    cases d <;> simp only [hu] at h <;> first
      | (cases h; done)
      | (rw [done_spec h]; exact .mk' (v' := .iface t x') (fun w => by simp [Instr.makeInterface, run_underlying hu]) (.iface hx))

/-! Rows of cells that are read. -/

/-- What is read stands in objects of which the rest speaks. -/
theorem readRow_sound {φ : Phi} {size n : Nat} {x x' : Value} {l : List Value} {rd : List Nat} {g : Nat} {H K : Heap} {w : World} (h : readRow H size n x = some (l, rd)) (hx : VR φ x x') (hR : Rel g φ K w)
    (hk : ∀ i, i ∈ rd → K.get i = H.get i) : ∃ l', (∀ w' : World, w'.heap = w.heap → (Builtin.firstCells size n x').run E.P w' = .ok l' w') ∧ VRs φ l l'.toList ∧ l.all cellOk = true := by
  have loads0 : ∀ (a : Addr) (w : World), (loadCells a 0).run E.P w = .ok #[] w := fun a w => by simpa using run_loadCells_list (P := E.P) w a [] (by simp)
  unfold readRow at h
  split at h
  · cases hb : Nat.beq n 0 with
    | false => simp [hb] at h
    | true =>
      simp [hb] at h
      obtain ⟨rfl, rfl⟩ := h
      cases hx.nilSlice_inv
      exact ⟨#[], fun w' _ => by simp [Builtin.firstCells], .nil, rfl⟩
  · rename_i i o sp m c
    cases hb : Nat.beq n 0 with
    | true =>
      simp [hb] at h
      obtain ⟨rfl, rfl⟩ := h
      have hn := beq_spec hb
      subst hn
      have : ∃ a c', x' = .slice (some a) m c' := by
        cases sp with
        | none => obtain ⟨L, _, rfl⟩ := hx.slice_inv; exact ⟨_, _, rfl⟩
        | some s => obtain ⟨L, a, c', _, rfl, _⟩ := hx.opn_inv; exact ⟨_, _, rfl⟩
      obtain ⟨a, c', rfl⟩ := this
      exact ⟨#[], fun w' _ => by simp [Builtin.firstCells, loads0], .nil, rfl⟩
    | false =>
      simp only [hb] at h
      have hn0 : n ≠ 0 := fun e => by subst e; simp at hb
      cases hle : Nat.ble n m with
      | false => simp [hle] at h
      | true =>
      have hnm := ble_spec hle
      simp only [hle] at h
      cases hg : H.get i with
      | cells cs e b =>
        simp only [hg] at h
        cases ht : takeAt o (n * size) cs with
        | none => simp [ht] at h
        | some q =>
          simp [ht] at h
          obtain ⟨rfl, rfl⟩ := h
          have main : ∀ L, φ i = some L → ∃ l', (∀ w' : World, w'.heap = w.heap → (loadCells ⟨L.b, L.base + o, none⟩ (n * size)).run E.P w' = .ok l' w') ∧ VRs φ q l'.toList ∧ q.all cellOk = true := by
            intro L hL
            have hobj := hR.obj i L hL
            rw [hk i (by simp), hg] at hobj
            obtain ⟨l', h1, h2, h3⟩ := hobj.row ht
            refine ⟨⟨l'⟩, fun w' hw => ?_, h1, h2⟩
            have := run_loadCells_list (P := E.P) w' ⟨L.b, L.base + o, none⟩ l' (fun j v hj => by
              have := h3 j v hj
              simp only [World.cell?] at this ⊢
              rw [hw]; exact this)
            have hlen : l'.length = n * size := by rw [← h1.1]; exact takeAt_len ht
            rw [hlen] at this
            exact this
          cases sp with
          | none =>
            obtain ⟨L, hL, rfl⟩ := hx.slice_inv
            obtain ⟨l', h1, h2, h3⟩ := main L hL
            exact ⟨l', fun w' hw => by simp [Builtin.firstCells, h1 w' hw], h2, h3⟩
          | some s =>
            obtain ⟨L, a, c', hL, rfl, g1, g2, g3⟩ := hx.opn_inv
            rcases g3 with g3 | ⟨rfl, g3⟩
            · omega
            · obtain ⟨l', h1, h2, h3⟩ := main L hL
              exact ⟨l', fun w' hw => by simp [Builtin.firstCells, h1 w' hw], h2, h3⟩
      | map es => simp [hg] at h
      | iter s p => simp [hg] at h
      | dead => simp [hg] at h
  · rename_i s
    cases hb : (Nat.beq size 1 && Nat.ble n s.data.toList.length) with
    | false => simp only [hb] at h; cases h
    | true =>
    simp only [hb, Option.some.injEq, Prod.mk.injEq] at h
    obtain ⟨rfl, rfl⟩ := h
    cases hx.string_inv
    refine ⟨((s.extract 0 n).data.map fun b => .int .u8 b.toNat), fun w' _ => by simp [Builtin.firstCells], ?_, ?_⟩
    · have : ((s.extract 0 n).data.map fun b => (Value.int .u8 b.toNat)).toList = ofBytes (s.data.toList.take n) := by
        simp [ofBytes, List.extract_eq_take_drop]
      rw [this]
      exact Pw.refl_of _ fun x hx => by
        simp only [ofBytes, List.mem_map] at hx
        obtain ⟨b, _, rfl⟩ := hx
        exact .atom rfl
    · rw [List.all_eq_true]
      intro x hx
      simp only [ofBytes, List.mem_map] at hx
      obtain ⟨b, _, rfl⟩ := hx
      rfl
  · cases h

theorem readRow_len {size n : Nat} {x : Value} {l : List Value} {rd : List Nat} {H : Heap} (h : readRow H size n x = some (l, rd)) : l.length = n * size := by
  unfold readRow at h
  split at h
  · cases hb : Nat.beq n 0 with
    | false => simp [hb] at h
    | true =>
      simp [hb] at h
      rw [beq_spec hb, h.1]; simp
  · rename_i i o sp m c
    cases hb : Nat.beq n 0 with
    | true =>
      simp [hb] at h
      rw [beq_spec hb, h.1]; simp
    | false =>
      cases hle : Nat.ble n m with
      | false => simp [hb, hle] at h
      | true =>
        simp only [hb, hle] at h
        cases hg : H.get i with
        | cells cs e b =>
          simp only [hg] at h
          cases ht : takeAt o (n * size) cs with
          | none => simp [ht] at h
          | some q =>
            simp [ht] at h
            rw [← h.1]; exact takeAt_len ht
        | map es => simp [hg] at h
        | iter s p => simp [hg] at h
        | dead => simp [hg] at h
  · rename_i s
    cases hb : (Nat.beq size 1 && Nat.ble n s.data.toList.length) with
    | false => simp only [hb] at h; cases h
    | true =>
      simp only [hb, Option.some.injEq, Prod.mk.injEq] at h
      simp only [Bool.and_eq_true] at hb
      have h1 := beq_spec hb.1
      have h2 := ble_spec hb.2
      rw [← h.1, h1]
      simp only [ofBytes, List.length_map, List.length_take]
      omega
  · cases h

end Go.AM
