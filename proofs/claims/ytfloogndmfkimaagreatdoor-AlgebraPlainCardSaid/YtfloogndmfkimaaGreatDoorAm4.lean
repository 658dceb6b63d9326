/- The abstract machine AM, part 4: the same evaluator written for the kernel; ranging over a map. -/
import Derived.Test.YtfloogndmfkimaaGreatDoorAm3
import Derived.Maps.RangeRun

namespace Go.AM
noncomputable section

/-! Small parts. -/

def evalQ : Operand → TT → Value :=
  Operand.rec (motive := fun _ => TT → Value) (fun k t => TT.getP (way k) t) (fun v _ => v) (fun g _ => .pointer (some ⟨g, 0, none⟩)) (fun f _ => .func (.func f) #[] #[])

theorem evalQ_eq (o : Operand) (t : TT) : evalQ o t = eval t o := by
  cases o with
  | tmp k => rfl
  | _ => rfl

def evalsQ : List Operand → TT → List Value :=
  List.rec (motive := fun _ => TT → List Value) (fun _ => []) (fun o _ ih t => evalQ o t :: ih t)

theorem evalsQ_eq : ∀ (l : List Operand) (t : TT), evalsQ l t = l.map (eval t)
  | [], _ => rfl
  | o :: l, t => by
    show evalQ o t :: evalsQ l t = _
    rw [evalQ_eq, evalsQ_eq l t]
    rfl

def putQ (d : Option Tmp) (v : Value) (t : TT) : TT := Option.rec (motive := fun _ => TT) t (fun d => TT.setP (way d) v t) d

theorem putQ_eq (d : Option Tmp) (v : Value) (t : TT) : putQ d v t = t.put d v := by cases d <;> rfl

def hgetQ (H : Heap) (i : Nat) : AObj := Bool.rec (motive := fun _ => AObj) .dead (HT.getP (wayH i) H.t) (Nat.blt i H.n)

theorem hgetQ_eq (H : Heap) (i : Nat) : hgetQ H i = H.get i := by
  unfold hgetQ Heap.get
  cases Nat.blt i H.n <;> rfl

/-! Values, taken apart: closed terms, so that the kernel copies nothing. -/

/-- What a value names: nothing, an object, or what its parts name. -/
inductive AV where
  | plain
  | obj (i : Nat)
  | deep
  | bad

def ptrV : Value → Option (Nat × Nat) :=
  Value.rec (motive_1 := fun _ => Option (Nat × Nat)) (motive_2 := fun _ => PUnit) (motive_3 := fun _ => PUnit) (fun _ => none) (fun _ _ => none) (fun _ _ => none) (fun _ _ _ => none) (fun _ => none) (Option.rec (motive := fun _ => Option (Nat × Nat)) none (Addr.rec (motive := fun _ => Option (Nat × Nat)) (fun i o s => Option.rec (motive := fun _ => Option (Nat × Nat)) (some (i, o)) (fun _ => none) s))) (fun _ _ _ => none) (fun _ => none) (fun _ => none) (fun _ _ _ _ _ => none) (none) (fun _ _ _ => none) (none) (fun _ _ => none) (fun _ _ => none) (fun _ _ => PUnit.unit) PUnit.unit (fun _ _ _ _ => PUnit.unit)

def aggV : Value → Option (List Value) :=
  Value.rec (motive_1 := fun _ => Option (List Value)) (motive_2 := fun _ => PUnit) (motive_3 := fun _ => PUnit) (fun _ => none) (fun _ _ => none) (fun _ _ => none) (fun _ _ _ => none) (fun _ => none) (fun _ => none) (fun _ _ _ => none) (fun _ => none) (fun _ => none) (fun _ _ _ _ _ => none) (none) (fun _ _ _ => none) (none) (fun cs _ => some cs.toList) (fun _ _ => none) (fun _ _ => PUnit.unit) PUnit.unit (fun _ _ _ _ => PUnit.unit)

def tupV : Value → Option (List Value) :=
  Value.rec (motive_1 := fun _ => Option (List Value)) (motive_2 := fun _ => PUnit) (motive_3 := fun _ => PUnit) (fun _ => none) (fun _ _ => none) (fun _ _ => none) (fun _ _ _ => none) (fun _ => none) (fun _ => none) (fun _ _ _ => none) (fun _ => none) (fun _ => none) (fun _ _ _ _ _ => none) (none) (fun _ _ _ => none) (none) (fun _ _ => none) (fun cs _ => some cs.toList) (fun _ _ => PUnit.unit) PUnit.unit (fun _ _ _ _ => PUnit.unit)

def natV : Value → Option Nat :=
  Value.rec (motive_1 := fun _ => Option Nat) (motive_2 := fun _ => PUnit) (motive_3 := fun _ => PUnit) (fun _ => none) (fun _ n => Int.rec (motive := fun _ => Option Nat) (fun m => some m) (fun _ => none) n) (fun _ _ => none) (fun _ _ _ => none) (fun _ => none) (fun _ => none) (fun _ _ _ => none) (fun _ => none) (fun _ => none) (fun _ _ _ _ _ => none) (none) (fun _ _ _ => none) (none) (fun _ _ => none) (fun _ _ => none) (fun _ _ => PUnit.unit) PUnit.unit (fun _ _ _ _ => PUnit.unit)

def rowV : Value → Option (Nat × Nat × Nat) :=
  Value.rec (motive_1 := fun _ => Option (Nat × Nat × Nat)) (motive_2 := fun _ => PUnit) (motive_3 := fun _ => PUnit) (fun _ => none) (fun _ _ => none) (fun _ _ => none) (fun _ _ _ => none) (fun _ => none) (fun _ => none) (fun a n _ => Option.rec (motive := fun _ => Option (Nat × Nat × Nat)) none (fun a => Addr.rec (motive := fun _ => Option (Nat × Nat × Nat)) (fun i o _ => some (i, o, n)) a) a) (fun _ => none) (fun _ => none) (fun _ _ _ _ _ => none) (none) (fun _ _ _ => none) (none) (fun _ _ => none) (fun _ _ => none) (fun _ _ => PUnit.unit) PUnit.unit (fun _ _ _ _ => PUnit.unit)

def intV : Value → Option (IntKind × Int) :=
  Value.rec (motive_1 := fun _ => Option (IntKind × Int)) (motive_2 := fun _ => PUnit) (motive_3 := fun _ => PUnit) (fun _ => none) (fun k n => some (k, n)) (fun _ _ => none) (fun _ _ _ => none) (fun _ => none) (fun _ => none) (fun _ _ _ => none) (fun _ => none) (fun _ => none) (fun _ _ _ _ _ => none) (none) (fun _ _ _ => none) (none) (fun _ _ => none) (fun _ _ => none) (fun _ _ => PUnit.unit) PUnit.unit (fun _ _ _ _ => PUnit.unit)

def boolV : Value → Option Bool :=
  Value.rec (motive_1 := fun _ => Option Bool) (motive_2 := fun _ => PUnit) (motive_3 := fun _ => PUnit) (fun b => some b) (fun _ _ => none) (fun _ _ => none) (fun _ _ _ => none) (fun _ => none) (fun _ => none) (fun _ _ _ => none) (fun _ => none) (fun _ => none) (fun _ _ _ _ _ => none) (none) (fun _ _ _ => none) (none) (fun _ _ => none) (fun _ _ => none) (fun _ _ => PUnit.unit) PUnit.unit (fun _ _ _ _ => PUnit.unit)

def livePtr : Value → Option Value :=
  Value.rec (motive_1 := fun _ => Option Value) (motive_2 := fun _ => PUnit) (motive_3 := fun _ => PUnit) (fun _ => none) (fun _ _ => none) (fun _ _ => none) (fun _ _ _ => none) (fun _ => none) (Option.rec (motive := fun _ => Option Value) none (fun a => some (.pointer (some a)))) (fun _ _ _ => none) (fun _ => none) (fun _ => none) (fun _ _ _ _ _ => none) (none) (fun _ _ _ => none) (none) (fun _ _ => none) (fun _ _ => none) (fun _ _ => PUnit.unit) PUnit.unit (fun _ _ _ _ => PUnit.unit)

def cellOkQ : Value → Bool :=
  Value.rec (motive_1 := fun _ => Bool) (motive_2 := fun _ => PUnit) (motive_3 := fun _ => PUnit) (fun _ => true) (fun _ _ => true) (fun _ _ => true) (fun _ _ _ => true) (fun _ => true) (fun _ => true) (fun _ _ _ => true) (fun _ => true) (fun _ => true) (fun _ _ _ _ _ => true) (true) (fun _ _ _ => true) (true) (fun _ _ => false) (fun _ _ => false) (fun _ _ => PUnit.unit) PUnit.unit (fun _ _ _ _ => PUnit.unit)

def cellsQ : Value → List Value :=
  Value.rec (motive_1 := fun _ => List Value) (motive_2 := fun _ => PUnit) (motive_3 := fun _ => PUnit) (fun b => [.bool b]) (fun k n => [.int k n]) (fun k n => [.float k n]) (fun k a b => [.complex k a b]) (fun s => [.string s]) (fun a => [.pointer a]) (fun a l c => [.slice a l c]) (fun m => [.map m]) (fun c => [.chan c]) (fun f a b _ _ => [.func f a b]) ([.nilFunc]) (fun t v _ => [.iface t v]) ([.nilIface]) (fun cs _ => cs.toList) (fun vs _ => [.tuple vs]) (fun _ _ => PUnit.unit) PUnit.unit (fun _ _ _ _ => PUnit.unit)

def placeV : Value → AV :=
  Value.rec (motive_1 := fun _ => AV) (motive_2 := fun _ => PUnit) (motive_3 := fun _ => PUnit) (fun _ => .plain) (fun _ _ => .plain) (fun _ _ => .bad) (fun _ _ _ => .bad) (fun _ => .plain) (Option.rec (motive := fun _ => AV) .plain (fun a => .obj a.block)) (fun a _ _ => Option.rec (motive := fun _ => AV) .plain (fun a => .obj a.block) a) (Option.rec (motive := fun _ => AV) .plain (fun i => .obj i)) (fun _ => .bad) (fun _ _ _ _ _ => .deep) (.plain) (fun _ _ _ => .deep) (.plain) (fun _ _ => .deep) (fun _ _ => .deep) (fun _ _ => PUnit.unit) PUnit.unit (fun _ _ _ _ => PUnit.unit)

def forceA : Value → (Value → Option ARes) → Option ARes :=
  Value.rec (motive_1 := fun _ => (Value → Option ARes) → Option ARes) (motive_2 := fun _ => PUnit) (motive_3 := fun _ => PUnit) (fun b K => K (.bool b)) (fun k n K => K (.int k n)) (fun k n K => K (.float k n)) (fun k a b K => K (.complex k a b)) (fun s K => K (.string s)) (fun a K => K (.pointer a)) (fun a l c K => K (.slice a l c)) (fun m K => K (.map m)) (fun c K => K (.chan c))
    (fun f a b _ _ K => K (.func f a b)) (fun K => K .nilFunc) (fun t v _ K => K (.iface t v)) (fun K => K .nilIface) (fun cs _ K => K (.agg cs)) (fun vs _ K => K (.tuple vs)) (fun _ _ => PUnit.unit) PUnit.unit (fun _ _ _ _ => PUnit.unit)

theorem forceA_eq (v : Value) (K : Value → Option ARes) : forceA v K = K v := by cases v <;> rfl

def forceO : Value → (Value → Option OpRes) → Option OpRes :=
  Value.rec (motive_1 := fun _ => (Value → Option OpRes) → Option OpRes) (motive_2 := fun _ => PUnit) (motive_3 := fun _ => PUnit) (fun b K => K (.bool b)) (fun k n K => K (.int k n)) (fun k n K => K (.float k n)) (fun k a b K => K (.complex k a b)) (fun s K => K (.string s)) (fun a K => K (.pointer a)) (fun a l c K => K (.slice a l c)) (fun m K => K (.map m)) (fun c K => K (.chan c))
    (fun f a b _ _ K => K (.func f a b)) (fun K => K .nilFunc) (fun t v _ K => K (.iface t v)) (fun K => K .nilIface) (fun cs _ K => K (.agg cs)) (fun vs _ K => K (.tuple vs)) (fun _ _ => PUnit.unit) PUnit.unit (fun _ _ _ _ => PUnit.unit)

theorem forceO_eq (v : Value) (K : Value → Option OpRes) : forceO v K = K v := by cases v <;> rfl

def pairK (x : Option (Nat × Nat)) (f : Nat → Nat → Option OpRes) : Option OpRes := Option.rec (motive := fun _ => Option OpRes) none (fun p => f p.1 p.2) x

/-- A pointer's object and place, handed on. -/
def ptrK (v : Value) (f : Nat → Nat → Option OpRes) : Option OpRes := pairK (ptrV v) f

theorem ptrV_eq (v : Value) : ptrV v = ptr v := by
  cases v with
  | pointer a =>
    rcases a with _ | ⟨i, o, s⟩
    · rfl
    · cases s <;> rfl
  | _ => rfl

theorem ptrK_eq (v : Value) (f : Nat → Nat → Option OpRes) : ptrK v f = (match ptr v with | some (i, o) => f i o | none => none) := by
  unfold ptrK
  rw [ptrV_eq]
  cases ptr v <;> rfl

def nthQ : List Value → Nat → Option Value :=
  List.rec (motive := fun _ => Nat → Option Value) (fun _ => none) (fun v _ ih n => Nat.rec (motive := fun _ => Option Value) (some v) (fun m _ => ih m) n)

theorem nthQ_eq : ∀ (l : List Value) (n : Nat), nthQ l n = l[n]?
  | [], n => rfl
  | v :: l, 0 => rfl
  | v :: l, n + 1 => by
    show nthQ l n = _
    rw [nthQ_eq l n]
    rfl

def dropQ : List Value → Nat → List Value :=
  List.rec (motive := fun _ => Nat → List Value) (fun _ => []) (fun v l ih n => Nat.rec (motive := fun _ => List Value) (v :: l) (fun m _ => ih m) n)

theorem dropQ_eq : ∀ (l : List Value) (n : Nat), dropQ l n = l.drop n
  | [], n => by cases n <;> rfl
  | v :: l, 0 => rfl
  | v :: l, n + 1 => dropQ_eq l n

def takeQ : Nat → List Value → Option (List Value) :=
  Nat.rec (motive := fun _ => List Value → Option (List Value)) (fun _ => some [])
    (fun _ ih cs => List.rec (motive := fun _ => Option (List Value)) none (fun c r _ => Option.rec (motive := fun _ => Option (List Value)) none (fun q => some (c :: q)) (ih r)) cs)

theorem takeQ_eq : ∀ (n : Nat) (l : List Value), takeQ n l = takeL n l
  | 0, l => rfl
  | n + 1, [] => rfl
  | n + 1, c :: r => by
    show Option.rec (motive := fun _ => Option (List Value)) none (fun q => some (c :: q)) (takeQ n r) = _
    rw [takeQ_eq n r]
    simp only [takeL]
    cases takeL n r <;> rfl

/-- How a type lies in memory. -/
inductive LK where
  | agg (n : Nat)
  | cell
  | bad

def lkOf (E : Env) (t : TypeId) : LK :=
  match isAggT E t with
  | some true => match sizeT E t with
    | some n => .agg n
    | none => .bad
  | some false => .cell
  | none => .bad

def aggOpt (x : Option (List Value)) (f : Value → Option OpRes) : Option OpRes := Option.rec (motive := fun _ => Option OpRes) none (fun r => f (.agg ⟨r⟩)) x
def valOpt (x : Option Value) (f : Value → Option OpRes) : Option OpRes := Option.rec (motive := fun _ => Option OpRes) none f x

/-- A part of a row of cells, handed on. -/
def partK (k : LK) (cs : List Value) (o : Nat) (f : Value → Option OpRes) : Option OpRes :=
  LK.rec (motive := fun _ => Option OpRes) (fun n => aggOpt (takeQ n (dropQ cs o)) f) (valOpt (nthQ cs o) f) none k

theorem partK_eq (E : Env) (t : TypeId) (cs : List Value) (o : Nat) (f : Value → Option OpRes) : partK (lkOf E t) cs o f = (match partO E t cs o with | some v => f v | none => none) := by
  unfold partK lkOf partO takeAt
  cases isAggT E t with
  | none => rfl
  | some b =>
    cases b with
    | false =>
      simp only [nthQ_eq]
      cases cs[o]? <;> rfl
    | true =>
      cases sizeT E t with
      | none => rfl
      | some n =>
        simp only [takeQ_eq, dropQ_eq]
        cases takeL n (List.drop o cs) <;> rfl

def loadC (k : LK) (H : Heap) (i o : Nat) : Option OpRes :=
  AObj.rec (motive := fun _ => Option OpRes) (fun cs _ _ => partK k cs o fun v => some ⟨v, H, [i], false, []⟩) (fun _ => none) (fun _ _ => none) none (hgetQ H i)

abbrev OpFn := Env → CallFn → TT → Heap → Option OpRes

def loadQ (ty : TypeId) (a : Operand) : OpFn := fun E _ t H => ptrK (evalQ a t) (loadC (lkOf E ty) H)

theorem loadQ_eq (ty : TypeId) (a : Operand) (E : Env) (c : CallFn) (t : TT) (H : Heap) : loadQ ty a E c t H = loadOp E H ty (eval t a) := by
  unfold loadQ loadOp
  rw [ptrK_eq, evalQ_eq]
  cases ptr (eval t a) with
  | none => rfl
  | some q =>
    obtain ⟨i, o⟩ := q
    simp only [loadC, hgetQ_eq, loadO]
    cases H.get i with
    | cells cs e b =>
      simp only [partK_eq]
      rfl
    | _ => rfl

theorem cellsQ_eq (v : Value) : cellsQ v = cellsL v := by cases v <;> rfl

theorem cellOkQ_eq (v : Value) : cellOkQ v = cellOk v := by cases v <;> rfl

def lenIsQ : List Value → Nat → Bool :=
  List.rec (motive := fun _ => Nat → Bool) (fun n => Nat.rec (motive := fun _ => Bool) true (fun _ _ => false) n) (fun _ _ ih n => Nat.rec (motive := fun _ => Bool) false (fun m _ => ih m) n)

theorem lenIsQ_eq : ∀ (l : List Value) (n : Nat), lenIsQ l n = Nat.beq l.length n
  | [], 0 => rfl
  | [], n + 1 => rfl
  | v :: l, 0 => rfl
  | v :: l, n + 1 => lenIsQ_eq l n

def putLQ : List Value → List Value → Option (List Value) :=
  List.rec (motive := fun _ => List Value → Option (List Value)) (fun cs => some cs)
    (fun v _ ih cs => List.rec (motive := fun _ => Option (List Value)) none
      (fun _ cs _ => Bool.rec (motive := fun _ => Option (List Value)) none (Option.rec (motive := fun _ => Option (List Value)) none (fun r => some (v :: r)) (ih cs)) (cellOkQ v)) cs)

theorem putLQ_eq : ∀ (vs cs : List Value), putLQ vs cs = putL vs cs
  | [], cs => rfl
  | v :: vs, [] => rfl
  | v :: vs, c :: cs => by
    show Bool.rec (motive := fun _ => Option (List Value)) none (Option.rec (motive := fun _ => Option (List Value)) none (fun r => some (v :: r)) (putLQ vs cs)) (cellOkQ v) = _
    rw [putLQ_eq vs cs, cellOkQ_eq]
    simp only [putL]
    cases cellOk v with
    | false => rfl
    | true => cases putL vs cs <;> rfl

def putAtQ : Nat → List Value → List Value → Option (List Value) :=
  Nat.rec (motive := fun _ => List Value → List Value → Option (List Value)) putLQ
    (fun _ ih vs cs => List.rec (motive := fun _ => Option (List Value)) none (fun c cs _ => Option.rec (motive := fun _ => Option (List Value)) none (fun r => some (c :: r)) (ih vs cs)) cs)

theorem putAtQ_eq : ∀ (o : Nat) (vs cs : List Value), putAtQ o vs cs = putAt o vs cs
  | 0, vs, cs => putLQ_eq vs cs
  | o + 1, vs, [] => rfl
  | o + 1, vs, c :: cs => by
    show Option.rec (motive := fun _ => Option (List Value)) none (fun r => some (c :: r)) (putAtQ o vs cs) = _
    rw [putAtQ_eq o vs cs]
    simp only [putAt]
    cases putAt o vs cs <;> rfl

def storeD (H : Heap) (i : Nat) (e : TypeId) (b : Bool) (x : Option (List Value)) : Option OpRes :=
  Option.rec (motive := fun _ => Option OpRes) none (fun r => some ⟨undef, H.set i (.cells r e b), [], false, [i]⟩) x

def storeC (sz : Option Nat) (H : Heap) (vs : List Value) (i o : Nat) : Option OpRes :=
  Option.rec (motive := fun _ => Option OpRes) none (fun n => AObj.rec (motive := fun _ => Option OpRes)
    (fun cs e b => Bool.rec (motive := fun _ => Option OpRes) none (storeD H i e b (putAtQ o vs cs)) (lenIsQ vs n)) (fun _ => none) (fun _ _ => none) none (hgetQ H i)) sz

def storeQ (ty : TypeId) (a x : Operand) : OpFn := fun E _ t H => ptrK (evalQ a t) (storeC (sizeT E ty) H (cellsQ (evalQ x t)))

theorem storeQ_eq (ty : TypeId) (a x : Operand) (E : Env) (c : CallFn) (t : TT) (H : Heap) : storeQ ty a x E c t H = storeOp E H ty (eval t a) (eval t x) := by
  unfold storeQ storeOp
  rw [ptrK_eq, evalQ_eq, evalQ_eq, cellsQ_eq]
  cases ptr (eval t a) with
  | none => rfl
  | some q =>
    obtain ⟨i, o⟩ := q
    cases sizeT E ty with
    | none => rfl
    | some n =>
      simp only [storeC, hgetQ_eq]
      cases H.get i with
      | cells cs e b =>
        simp only [lenIsQ_eq, putAtQ_eq, storeD]
        cases Nat.beq (cellsL (eval t x)).length n with
        | false => rfl
        | true => simp only; cases putAt o (cellsL (eval t x)) cs <;> rfl
      | _ => rfl

/-- Where a field lies. -/
def fieldOff (E : Env) (s : TypeId) (f : Nat) : Option Nat :=
  match E.P.underlying s with
  | some (.struct fs) => match fieldPlaceT E fs f with
    | some (off, _ + 1) => some off
    | _ => none
  | _ => none

def fieldAddrC (off : Option Nat) (H : Heap) (i o : Nat) : Option OpRes :=
  Option.rec (motive := fun _ => Option OpRes) none (fun off => some ⟨.pointer (some ⟨i, Nat.add o off, none⟩), H, [], false, []⟩) off

def fieldAddrQ (s : TypeId) (x : Operand) (f : Nat) : OpFn := fun E _ t H => ptrK (evalQ x t) (fieldAddrC (fieldOff E s f) H)

theorem fieldAddrQ_eq (s : TypeId) (x : Operand) (f : Nat) (E : Env) (c : CallFn) (t : TT) (H : Heap) : fieldAddrQ s x f E c t H = fieldAddrOp E H s (eval t x) f := by
  unfold fieldAddrQ fieldAddrOp fieldOff
  rw [ptrK_eq, evalQ_eq]
  cases ptr (eval t x) with
  | none =>
    simp only
    cases hu : E.P.underlying s with
    | none => rfl
    | some d => cases d <;> rfl
  | some q =>
    obtain ⟨i, o⟩ := q
    cases hu : E.P.underlying s with
    | none => rfl
    | some d =>
      cases d <;> try rfl
      rename_i fs
      simp only
      cases fieldPlaceT E fs f with
      | none => rfl
      | some p =>
        obtain ⟨off, n⟩ := p
        cases n <;> rfl

/-- A field's place in a struct's cells, and its kind. -/
def fieldK (E : Env) (ty : TypeId) (f : Nat) : Option (LK × Nat) :=
  match E.P.underlying ty with
  | some (.struct fs) => match fs.toList[f]? with
    | some g => some (lkOf E g.type, g.offset)
    | none => none
  | _ => none

def listK (x : Option (List Value)) (f : List Value → Option OpRes) : Option OpRes := Option.rec (motive := fun _ => Option OpRes) none f x

def fieldC (k : Option (LK × Nat)) (H : Heap) (cs : List Value) : Option OpRes :=
  Option.rec (motive := fun _ => Option OpRes) none (fun p => Prod.rec (motive := fun _ => Option OpRes) (fun k o => partK k cs o fun v => some ⟨v, H, [], false, []⟩) p) k

def fieldQ (ty : TypeId) (x : Operand) (f : Nat) : OpFn := fun E _ t H => listK (aggV (evalQ x t)) (fieldC (fieldK E ty f) H)

theorem fieldQ_eq (ty : TypeId) (x : Operand) (f : Nat) (E : Env) (c : CallFn) (t : TT) (H : Heap) : fieldQ ty x f E c t H = fieldOp E H ty (eval t x) f := by
  unfold fieldQ fieldOp fieldK
  rw [evalQ_eq]
  cases E.P.underlying ty with
  | none => cases eval t x <;> rfl
  | some d =>
    cases d <;> (try (cases eval t x <;> rfl))
    rename_i fs
    cases eval t x <;> try rfl
    rename_i cs
    show listK (some cs.toList) _ = _
    simp only [listK]
    cases fs.toList[f]? with
    | none => rfl
    | some g =>
      simp only [fieldC, partK_eq]
      rfl

def extractQ (x : Operand) (k : Nat) : OpFn := fun _ _ t H => listK (tupV (evalQ x t)) fun vs => valOpt (nthQ vs k) fun v => some ⟨v, H, [], false, []⟩

theorem extractQ_eq (x : Operand) (k : Nat) (E : Env) (c : CallFn) (t : TT) (H : Heap) : extractQ x k E c t H = (match eval t x with | .tuple vs => (match vs.toList[k]? with | some v => done v H | none => none) | _ => none) := by
  unfold extractQ
  rw [evalQ_eq]
  cases eval t x <;> try rfl
  rename_i vs
  show listK (some vs.toList) _ = _
  simp only [listK, nthQ_eq, valOpt]
  cases vs.toList[k]? <;> rfl

/-- How the elements of a slice type lie. -/
def sliceK (E : Env) (ty : TypeId) : Option Nat :=
  match E.P.underlying ty with
  | some (.slice e) => sizeT E e
  | _ => none

def natK (x : Option Nat) (d : Option OpRes) (f : Nat → Option OpRes) : Option OpRes := Option.rec (motive := fun _ => Option OpRes) d f x
def rowK (x : Option (Nat × Nat × Nat)) (d : Option OpRes) (f : Nat → Nat → Nat → Option OpRes) : Option OpRes := Option.rec (motive := fun _ => Option OpRes) d (fun p => f p.1 p.2.1 p.2.2) x

def elemC (H : Heap) (n k i o len : Nat) : Option OpRes :=
  Bool.rec (motive := fun _ => Option OpRes) none (some ⟨.pointer (some ⟨i, Nat.add o (Nat.mul k n), none⟩), H, [], false, []⟩) (Nat.blt k len)

def indexAddrQ (ty : TypeId) (x ix : Operand) : OpFn := fun E _ t H =>
  Option.rec (motive := fun _ => Option OpRes) (indexAddrOp E H ty (eval t x) (eval t ix))
    (fun n => natK (natV (evalQ ix t)) (indexAddrOp E H ty (eval t x) (eval t ix)) fun k => rowK (rowV (evalQ x t)) (indexAddrOp E H ty (eval t x) (eval t ix)) fun i o len => elemC H n k i o len) (sliceK E ty)

theorem indexAddrQ_eq (ty : TypeId) (x ix : Operand) (E : Env) (c : CallFn) (t : TT) (H : Heap) : indexAddrQ ty x ix E c t H = indexAddrOp E H ty (eval t x) (eval t ix) := by
  unfold indexAddrQ
  cases hk : sliceK E ty with
  | none => rfl
  | some n =>
    simp only [evalQ_eq]
    unfold sliceK at hk
    split at hk
    · rename_i e hu
      generalize eval t ix = vi
      generalize eval t x = vx
      cases vi <;> try rfl
      rename_i kk m
      cases m <;> try rfl
      rename_i k
      cases vx <;> try rfl
      rename_i a len cap
      rcases a with _ | ⟨i, o, s⟩
      · rfl
      · show elemC H n k i o len = _
        simp only [elemC, indexAddrOp, asNat, hu, hk]
        cases Nat.blt k len <;> rfl
    · cases hk

/-! New cells. -/

def allQ (f : Value → Bool) : List Value → Bool := List.rec (motive := fun _ => Bool) true (fun v _ ih => Bool.rec (motive := fun _ => Bool) false ih (f v))

theorem allQ_eq (f g : Value → Bool) (h : ∀ v, f v = g v) : ∀ (l : List Value), allQ f l = l.all g
  | [] => rfl
  | v :: l => by
    show Bool.rec (motive := fun _ => Bool) false (allQ f l) (f v) = _
    rw [allQ_eq f g h l, h v]
    simp only [List.all_cons]
    cases g v <;> rfl

def cellsNew (H : Heap) (cs : List Value) (e : TypeId) : Option OpRes :=
  Bool.rec (motive := fun _ => Option OpRes) none (some ⟨.pointer (some ⟨H.n, 0, none⟩), H.push (.cells cs e false), [], false, []⟩) (allQ cellOkQ cs)

theorem cellsNew_eq (H : Heap) (cs : List Value) (e : TypeId) : cellsNew H cs e = newCells H cs e false asPtr := by
  unfold cellsNew newCells
  rw [allQ_eq _ _ cellOkQ_eq]
  cases cs.all cellOk <;> rfl

/-! Numbers. -/

def kindIsQ : IntKind → IntKind → Bool :=
  IntKind.rec (motive := fun _ => IntKind → Bool)
    (IntKind.rec (motive := fun _ => Bool) true false false false false false false false) (IntKind.rec (motive := fun _ => Bool) false true false false false false false false)
    (IntKind.rec (motive := fun _ => Bool) false false true false false false false false) (IntKind.rec (motive := fun _ => Bool) false false false true false false false false)
    (IntKind.rec (motive := fun _ => Bool) false false false false true false false false) (IntKind.rec (motive := fun _ => Bool) false false false false false true false false)
    (IntKind.rec (motive := fun _ => Bool) false false false false false false true false) (IntKind.rec (motive := fun _ => Bool) false false false false false false false true)

theorem kindIsQ_eq (j k : IntKind) : kindIsQ j k = decide (j = k) := by cases j <;> cases k <;> rfl

/-- The wrap, at a natural number. -/
def wrapNat (k : IntKind) (m : Nat) : Int :=
  IntKind.rec (motive := fun _ => Int) (wrapF .i8 (.ofNat m)) (wrapF .i16 (.ofNat m))
    (Bool.rec (motive := fun _ => Int) (wrapF .i32 (.ofNat m)) (.ofNat m) (Nat.blt m 2147483648)) (Bool.rec (motive := fun _ => Int) (wrapF .i64 (.ofNat m)) (.ofNat m) (Nat.blt m 9223372036854775808))
    (.ofNat (Nat.mod m 256)) (wrapF .u16 (.ofNat m)) (.ofNat (Nat.mod m 4294967296)) (.ofNat (Nat.mod m 18446744073709551616)) k

theorem wrapNat_eq (k : IntKind) (m : Nat) : wrapNat k m = wrapF k (.ofNat m) := by
  cases k <;> try rfl
  · show Bool.rec (motive := fun _ => Int) (wrapF .i32 (.ofNat m)) (.ofNat m) (Nat.blt m 2147483648) = _
    cases h : Nat.blt m 2147483648 with
    | false => rfl
    | true =>
      have h' : m < 2147483648 := by rw [Nat.blt_eq] at h; exact h
      have e : (Int.ofNat m) % 4294967296 = Int.ofNat m := Int.emod_eq_of_lt (Int.natCast_nonneg m) (by show (m : Int) < 4294967296; omega)
      simp only [wrapF, e, h]
  · show Bool.rec (motive := fun _ => Int) (wrapF .i64 (.ofNat m)) (.ofNat m) (Nat.blt m 9223372036854775808) = _
    cases h : Nat.blt m 9223372036854775808 with
    | false => rfl
    | true =>
      have h' : m < 9223372036854775808 := by rw [Nat.blt_eq] at h; exact h
      have e : (Int.ofNat m) % 18446744073709551616 = Int.ofNat m := Int.emod_eq_of_lt (Int.natCast_nonneg m) (by show (m : Int) < 18446744073709551616; omega)
      simp only [wrapF, e, h]

/-- Integers of whatever sign, handed on by their signs. -/
def nn {β : Type} (a b : Int) (f : Nat → Nat → β) (d : β) : β :=
  Int.rec (motive := fun _ => β) (fun m => Int.rec (motive := fun _ => β) (fun n => f m n) (fun _ => d) b) (fun _ => d) a

def addQ (k : IntKind) (a b : Int) : Value := nn a b (fun m n => .int k (wrapNat k (Nat.add m n))) (.int k (wrapF k (a + b)))
def subQ (k : IntKind) (a b : Int) : Value := nn a b (fun m n => Bool.rec (motive := fun _ => Value) (.int k (wrapF k (a - b))) (.int k (wrapNat k (Nat.sub m n))) (Nat.ble n m)) (.int k (wrapF k (a - b)))
def mulQ (k : IntKind) (a b : Int) : Value := nn a b (fun m n => .int k (wrapNat k (Nat.mul m n))) (.int k (wrapF k (a * b)))
def notQ (b : Bool) : Bool := Bool.rec (motive := fun _ => Bool) true false b
def eqQ (a b : Int) : Bool := nn a b (fun m n => Nat.beq m n) (decide (a = b))
def ltQ (a b : Int) : Bool := nn a b (fun m n => Nat.blt m n) (decide (a < b))
def leQ (a b : Int) : Bool := nn a b (fun m n => Nat.ble m n) (decide (a ≤ b))

theorem addQ_eq (k : IntKind) (a b : Int) : addQ k a b = .int k (wrapF k (a + b)) := by
  cases a <;> cases b <;> first | rfl | (simp only [addQ, nn, wrapNat_eq]; rfl)
theorem mulQ_eq (k : IntKind) (a b : Int) : mulQ k a b = .int k (wrapF k (a * b)) := by
  cases a <;> cases b <;> first | rfl | (simp only [mulQ, nn, wrapNat_eq]; rfl)
theorem subQ_eq (k : IntKind) (a b : Int) : subQ k a b = .int k (wrapF k (a - b)) := by
  cases a with
  | negSucc a => rfl
  | ofNat a => cases b with
    | negSucc b => rfl
    | ofNat b =>
      simp only [subQ, nn, wrapNat_eq]
      cases h : Nat.ble b a with
      | false => rfl
      | true =>
        have h' := Nat.le_of_ble_eq_true h
        have e : Int.ofNat a - Int.ofNat b = Int.ofNat (Nat.sub a b) := by
          show (a : Int) - (b : Int) = ((a - b : Nat) : Int)
          omega
        rw [e]
theorem eqQ_eq (a b : Int) : eqQ a b = decide (a = b) := by
  cases a <;> cases b <;> try rfl
  rename_i m n
  simp only [eqQ, nn]
  rw [Bool.eq_iff_iff, Nat.beq_eq, decide_eq_true_iff]
  exact ⟨fun h => by rw [h], fun h => by injection h⟩
theorem ltQ_eq (a b : Int) : ltQ a b = decide (a < b) := by
  cases a <;> cases b <;> try rfl
  rename_i m n
  simp only [ltQ, nn]
  rw [Bool.eq_iff_iff, Nat.blt_eq, decide_eq_true_iff]
  exact Int.ofNat_lt.symm
theorem leQ_eq (a b : Int) : leQ a b = decide (a ≤ b) := by
  cases a <;> cases b <;> try rfl
  rename_i m n
  simp only [leQ, nn]
  rw [Bool.eq_iff_iff, Nat.ble_eq, decide_eq_true_iff]
  exact Int.ofNat_le.symm

def vDone (H : Heap) (v : Value) : Option OpRes := some ⟨v, H, [], false, []⟩

/-- An operation of two numbers of one kind. -/
def numBin (op : BinOp) (H : Heap) (k : IntKind) (a b : Int) (d : Option OpRes) : Option OpRes :=
  BinOp.rec (motive := fun _ => Option OpRes) (vDone H (addQ k a b)) (vDone H (subQ k a b)) (vDone H (mulQ k a b)) d d d d d d d d
    (vDone H (.bool (eqQ a b))) (vDone H (.bool (notQ (eqQ a b)))) (vDone H (.bool (ltQ a b))) (vDone H (.bool (leQ a b))) (vDone H (.bool (ltQ b a))) (vDone H (.bool (leQ b a))) op

def intK (x : Option (IntKind × Int)) (d : Option OpRes) (f : IntKind → Int → Option OpRes) : Option OpRes := Option.rec (motive := fun _ => Option OpRes) d (fun p => f p.1 p.2) x

def binV (op : BinOp) (ty : TypeId) (E : Env) (H : Heap) (x y : Value) : Option OpRes :=
  intK (intV x) (binOpOp E H op ty x y) fun k a => intK (intV y) (binOpOp E H op ty x y) fun k' b =>
    Bool.rec (motive := fun _ => Option OpRes) (binOpOp E H op ty x y) (numBin op H k a b (binOpOp E H op ty x y)) (kindIsQ k k')

theorem binV_eq (op : BinOp) (ty : TypeId) (E : Env) (H : Heap) (x y : Value) : binV op ty E H x y = binOpOp E H op ty x y := by
  cases x <;> try rfl
  rename_i k a
  cases y <;> try rfl
  rename_i k' b
  show Bool.rec (motive := fun _ => Option OpRes) (binOpOp E H op ty (.int k a) (.int k' b)) (numBin op H k a b (binOpOp E H op ty (.int k a) (.int k' b))) (kindIsQ k k') = _
  rw [kindIsQ_eq]
  by_cases h : k = k'
  · subst h
    have hd : decide (k = k) = true := decide_eq_true rfl
    simp only [hd]
    cases op <;> (try rfl) <;>
      simp only [numBin, vDone, binOpOp, intBin, decide_true, addQ_eq, subQ_eq, mulQ_eq, eqQ_eq, ltQ_eq, leQ_eq, done, notQ] <;> (try rfl)
    cases decide (a = b) <;> rfl
  · have hd : decide (k = k') = false := decide_eq_false h
    simp only [hd]

def binQ (op : BinOp) (ty : TypeId) (x y : Operand) (_ : TypeId) : OpFn := fun E _ t H => binV op ty E H (evalQ x t) (evalQ y t)

def boolK (x : Option Bool) (f : Bool → Option OpRes) : Option OpRes := Option.rec (motive := fun _ => Option OpRes) none f x

/-! Operations. -/

/-- Whatever has no word of its own here. -/
def restQ (op : Op) : OpFn := fun E call t H => step E call t H ⟨none, op, 0, "", #[], none⟩

theorem step_rest (E : Env) (call : CallFn) (t : TT) (H : Heap) (o : Oper) : step E call t H o = restQ o.op E call t H := rfl

def moveQ (x : Operand) : OpFn := fun _ _ t H => some ⟨evalQ x t, H, [], false, []⟩

def pickQ (c a b : Operand) : OpFn := fun _ _ t H => boolK (boolV (evalQ c t)) fun q => Bool.rec (motive := fun _ => Option OpRes) (some ⟨evalQ b t, H, [], false, []⟩) (some ⟨evalQ a t, H, [], false, []⟩) q

def nilCheckQ (x : Operand) : OpFn := fun E call t H => Option.rec (motive := fun _ => Option OpRes) (restQ (.nilCheck x) E call t H) (fun v => some ⟨v, H, [], false, []⟩)
  (livePtr (evalQ x t))

theorem nilCheckQ_eq (x : Operand) (E : Env) (call : CallFn) (t : TT) (H : Heap) : nilCheckQ x E call t H = restQ (.nilCheck x) E call t H := by
  have e : restQ (.nilCheck x) E call t H = (match eval t x with
    | .pointer (some a) => done (.pointer (some a)) H
    | .func (.func g) first captured => done (.func (.func g) first captured) H
    | .func (.method m) first captured => match first.toList with
      | .iface ty _ :: _ => match methodF E ty m with
        | some _ => done (.func (.method m) first captured) H
        | none => none
      | _ => none
    | .iface ty v => done (.iface ty v) H
    | _ => none) := rfl
  unfold nilCheckQ
  rw [evalQ_eq]
  cases hx : eval t x with
  | pointer a =>
    cases a with
    | none => rfl
    | some a => rw [e, hx]; rfl
  | _ => rfl

def callK (r : Option CallRes) : Option OpRes := Option.rec (motive := fun _ => Option OpRes) none (fun r => CallRes.rec (motive := fun _ => Option OpRes) (fun v H d => some ⟨v, H, [], true, d⟩) r) r

/-- The arguments of a call, one after another. -/
def argsF : List Operand → TT → (List Value → Option OpRes) → Option OpRes :=
  List.rec (motive := fun _ => TT → (List Value → Option OpRes) → Option OpRes) (fun _ K => K []) (fun o _ ih t K => forceO (evalQ o t) fun v => ih t fun l => K (v :: l))

theorem argsF_eq : ∀ (l : List Operand) (t : TT) (K : List Value → Option OpRes), argsF l t K = K (evalsQ l t)
  | [], _, _ => rfl
  | o :: l, t, K => by
    show forceO (evalQ o t) (fun v => argsF l t fun l => K (v :: l)) = _
    rw [forceO_eq, argsF_eq l t]
    rfl

/-- The number of a function that a call names. -/
def direct : Callee → Option FuncId :=
  Callee.rec (motive := fun _ => Option FuncId) (fun f => Operand.rec (motive := fun _ => Option FuncId) (fun _ => none) (fun _ => none) (fun _ => none) (fun g => some g) f) (fun _ _ => none) (fun _ => none)

def callOpQ (c : Call) : OpFn := fun E call t H =>
  Option.rec (motive := fun _ => Option OpRes) (restQ (.call c) E call t H) (fun g => argsF c.args.toList t fun l => callK (call g l H)) (direct c.callee)

theorem callOpQ_eq (c : Call) (E : Env) (call : CallFn) (t : TT) (H : Heap) : callOpQ c E call t H = restQ (.call c) E call t H := by
  unfold callOpQ
  obtain ⟨callee, args, ts⟩ := c
  cases callee with
  | value f =>
    cases f with
    | func g =>
      have e : restQ (.call ⟨.value (.func g), args, ts⟩) E call t H = (match call g ([] ++ (args.toList.map (eval t) ++ [])) H with | some r => some (⟨r.v, r.H, [], true, r.dirty⟩ : OpRes) | none => none) := rfl
      rw [e, List.nil_append, List.append_nil, ← evalsQ_eq]
      show argsF args.toList t (fun l => callK (call g l H)) = _
      rw [argsF_eq]
      cases call g (evalsQ args.toList t) H <;> rfl
    | _ => rfl
  | _ => rfl

def allocQ (e : TypeId) : OpFn := fun E _ _ H => Option.rec (motive := fun _ => Option OpRes) none (fun z => cellsNew H (cellsL z) e) (zeroT E e)
def boxQ (e : TypeId) (x : Operand) : OpFn := fun _ _ t H => cellsNew H (cellsQ (evalQ x t)) e

theorem allocQ_eq (e : TypeId) (E : Env) (call : CallFn) (t : TT) (H : Heap) : allocQ e E call t H = restQ (.alloc e) E call t H := by
  have h : restQ (.alloc e) E call t H = (match zeroT E e with | some z => newCells H (cellsL z) e false asPtr | none => none) := rfl
  rw [h]
  unfold allocQ
  cases zeroT E e with
  | none => rfl
  | some z => exact cellsNew_eq H (cellsL z) e

theorem boxQ_eq (e : TypeId) (x : Operand) (E : Env) (call : CallFn) (t : TT) (H : Heap) : boxQ e x E call t H = restQ (.box e x) E call t H := by
  have h : restQ (.box e x) E call t H = newCells H (cellsL (eval t x)) e false asPtr := rfl
  rw [h]
  unfold boxQ
  rw [cellsNew_eq, cellsQ_eq, evalQ_eq]

def partsQ (t : TT) : List (Nat × Operand) → List (Nat × Value) :=
  List.rec (motive := fun _ => List (Nat × Value)) [] (fun p _ ih => (p.1, evalQ p.2 t) :: ih)

theorem partsQ_eq (t : TT) : ∀ l, partsQ t l = l.map fun p => (p.1, eval t p.2)
  | [] => rfl
  | p :: l => by
    show (p.1, evalQ p.2 t) :: partsQ t l = _
    rw [partsQ_eq t l, evalQ_eq]
    rfl

/-- A struct's zero value and the places of its fields. -/
def structT (E : Env) (ty : TypeId) : Option (List Value × List (Nat × Nat)) :=
  match zeroT E ty, E.P.underlying ty with
  | some z, some (.struct fs) => match placesT E fs.toList with
    | some pl => some (cellsL z, pl)
    | none => none
  | _, _ => none

def nthP : List (Nat × Nat) → Nat → Option (Nat × Nat) :=
  List.rec (motive := fun _ => Nat → Option (Nat × Nat)) (fun _ => none) (fun v _ ih n => Nat.rec (motive := fun _ => Option (Nat × Nat)) (some v) (fun m _ => ih m) n)

theorem nthP_eq : ∀ (l : List (Nat × Nat)) (n : Nat), nthP l n = l[n]?
  | [], n => rfl
  | v :: l, 0 => rfl
  | v :: l, n + 1 => by
    show nthP l n = _
    rw [nthP_eq l n]
    rfl

def fillQ1 (off size : Nat) (vs cs : List Value) (k : List Value → Option (List Value)) : Option (List Value) :=
  Bool.rec (motive := fun _ => Option (List Value)) none (Option.rec (motive := fun _ => Option (List Value)) none k (putAtQ off vs cs)) (lenIsQ vs size)

def fillQ (pl : List (Nat × Nat)) : List (Nat × Value) → List Value → Option (List Value) :=
  List.rec (motive := fun _ => List Value → Option (List Value)) (fun cs => some cs)
    (fun p _ ih cs => Option.rec (motive := fun _ => Option (List Value)) none (fun q => fillQ1 q.1 q.2 (cellsQ p.2) cs ih) (nthP pl p.1))

theorem fillQ_eq (pl : List (Nat × Nat)) : ∀ (l : List (Nat × Value)) (cs : List Value), fillQ pl l cs = fillL (fun i => pl[i]?) cs l
  | [], cs => rfl
  | (i, v) :: l, cs => by
    show Option.rec (motive := fun _ => Option (List Value)) none (fun q => fillQ1 q.1 q.2 (cellsQ v) cs (fillQ pl l)) (nthP pl i) = _
    rw [nthP_eq]
    simp only [fillL]
    cases pl[i]? with
    | none => rfl
    | some q =>
      obtain ⟨off, size⟩ := q
      simp only [fillQ1, lenIsQ_eq, cellsQ_eq, putAtQ_eq]
      cases Nat.beq (cellsL v).length size with
      | false => rfl
      | true =>
        simp only
        cases putAt off (cellsL v) cs with
        | none => rfl
        | some r => exact fillQ_eq pl l r

def buildQ (ty : TypeId) (ps : Array (Nat × Operand)) : OpFn := fun E call t H =>
  Option.rec (motive := fun _ => Option OpRes) (restQ (.build ty ps) E call t H)
    (fun z => Option.rec (motive := fun _ => Option OpRes) none (fun r => some ⟨.agg ⟨r⟩, H, [], false, []⟩) (fillQ z.2 (partsQ t ps.toList) z.1)) (structT E ty)

theorem buildQ_eq (ty : TypeId) (ps : Array (Nat × Operand)) (E : Env) (call : CallFn) (t : TT) (H : Heap) : buildQ ty ps E call t H = restQ (.build ty ps) E call t H := by
  have h : restQ (.build ty ps) E call t H = buildOp E H ty (ps.toList.map fun p => (p.1, eval t p.2)) := rfl
  unfold buildQ
  cases hs : structT E ty with
  | none => rfl
  | some z =>
    obtain ⟨cs, pl⟩ := z
    rw [h]
    simp only [partsQ_eq, fillQ_eq]
    unfold structT at hs
    split at hs
    · rename_i z0 fs h1 h2
      split at hs
      · rename_i pl' h3
        cases hs
        simp only [buildOp, h1, h2, h3]
        cases fillL (fun i => pl[i]?) (cellsL z0) (ps.toList.map fun p => (p.1, eval t p.2)) <;> rfl
      · cases hs
    · cases hs

def unOpQ (op : UnOp) (_ : TypeId) (x : Operand) : OpFn := fun _ _ t H => unOpOp H op (evalQ x t)

def opQ : Op → OpFn :=
  Op.rec (motive := fun _ => OpFn) moveQ moveQ pickQ allocQ boxQ buildQ (fun t l p => restQ (.buildSlice t l p))
    (fun t m k v => restQ (.insert t m k v)) loadQ storeQ (fun g => restQ (.ready g)) (fun g => restQ (.waits g)) nilCheckQ binQ unOpQ (fun s d x => restQ (.convert s d x))
    (fun d x => restQ (.sliceToArrayPointer d x)) (fun t x => restQ (.makeInterface t x)) (fun f a b => restQ (.makeFunc f a b)) (fun t r => restQ (.makeMap t r)) (fun t s => restQ (.makeChan t s))
    (fun t l c => restQ (.makeSlice t l c)) (fun t x l h m => restQ (.slice t x l h m)) fieldAddrQ fieldQ indexAddrQ (fun t x i => restQ (.index t x i)) (fun t x i o => restQ (.lookup t x i o))
    (fun t m k v => restQ (.mapUpdate t m k v)) (fun t m k => restQ (.mapEntry t m k)) (fun t m s v => restQ (.entryStore t m s v)) (fun t x => restQ (.range t x)) (fun i s => restQ (.next i s))
    (fun i => restQ (.entry i)) (fun x t a o => restQ (.typeAssert x t a o)) extractQ callOpQ (fun c => restQ (.go c)) (fun c => restQ (.defer c)) (fun x => restQ (.panic x)) (fun c x => restQ (.send c x))
    (fun t c o => restQ (.recv t c o)) (fun c b => restQ (.select c b))

theorem opQ_eq (op : Op) (E : Env) (call : CallFn) (t : TT) (H : Heap) : opQ op E call t H = restQ op E call t H := by
  cases op <;> try rfl
  case move x => exact congrArg (fun v => some (⟨v, H, [], false, []⟩ : OpRes)) (evalQ_eq x t)
  case assign x => exact congrArg (fun v => some (⟨v, H, [], false, []⟩ : OpRes)) (evalQ_eq x t)
  case pick c a b =>
    have e : restQ (.pick c a b) E call t H = (match eval t c with | .bool true => done (eval t a) H | .bool false => done (eval t b) H | _ => none) := rfl
    show pickQ c a b E call t H = _
    rw [e]
    simp only [pickQ, evalQ_eq]
    cases hc : eval t c with
    | bool b => cases b <;> rfl
    | _ => rfl
  case alloc e => exact allocQ_eq e E call t H
  case box e x => exact boxQ_eq e x E call t H
  case build ty ps => exact buildQ_eq ty ps E call t H
  case unOp op ty x => exact congrArg (unOpOp H op) (evalQ_eq x t)
  case load ty a => exact loadQ_eq ty a E call t H
  case store ty a x => exact storeQ_eq ty a x E call t H
  case nilCheck x => exact nilCheckQ_eq x E call t H
  case binOp op ty x y ty' =>
    show binV op ty E H (evalQ x t) (evalQ y t) = _
    rw [binV_eq, evalQ_eq, evalQ_eq]
    rfl
  case fieldAddr s x f => exact fieldAddrQ_eq s x f E call t H
  case field ty x f => exact fieldQ_eq ty x f E call t H
  case indexAddr ty x ix => exact indexAddrQ_eq ty x ix E call t H
  case extract x k => exact extractQ_eq x k E call t H
  case call c => exact callOpQ_eq c E call t H

/-! Regions. -/

def wantsQ (t : TT) (all : List Oper) (o : Oper) : Bool := Option.rec (motive := fun _ => Bool) true (fun _ => wants t all o) o.guard

theorem wantsQ_eq (t : TT) (all : List Oper) (o : Oper) : wantsQ t all o = wants t all o := by
  unfold wantsQ
  cases h : o.guard with
  | none => unfold wants; rw [h]
  | some q => rfl

def soilQ (base : Nat) (wr d : List Nat) : List Nat := List.rec (motive := fun _ => List Nat) d (fun _ _ _ => soil base wr d) wr

theorem soilQ_eq (base : Nat) (wr d : List Nat) : soilQ base wr d = soil base wr d := by cases wr <;> rfl

def stepK (r : Option OpRes) (f : Value → Heap → List Nat → Option ARes) : Option ARes :=
  Option.rec (motive := fun _ => Option ARes) none (fun r => OpRes.rec (motive := fun _ => Option ARes) (fun v H _ _ wr => forceA v fun v => f v H wr) r) r

def runOpsQ (E : Env) (call : CallFn) (base : Nat) (all : List Oper) : List Oper → TT → Heap → List Nat → Option ARes :=
  List.rec (motive := fun _ => TT → Heap → List Nat → Option ARes) (fun t H d => some ⟨.normal, t, H, d⟩)
    (fun o _ ih t H d => Bool.rec (motive := fun _ => Option ARes) (ih (putQ o.dst undef t) H d) (stepK (opQ o.op E call t H) fun v H wr => ih (putQ o.dst v t) H (soilQ base wr d)) (wantsQ t all o))

theorem runOpsQ_eq (E : Env) (call : CallFn) (base : Nat) (all : List Oper) : ∀ (l : List Oper) (t : TT) (H : Heap) (d : List Nat), runOpsQ E call base all l t H d = runOps E call base all l t H d
  | [], _, _, _ => rfl
  | o :: l, t, H, d => by
    have ih := runOpsQ_eq E call base all l
    show Bool.rec (motive := fun _ => Option ARes) (runOpsQ E call base all l (putQ o.dst undef t) H d)
      (stepK (opQ o.op E call t H) fun v H wr => runOpsQ E call base all l (putQ o.dst v t) H (soilQ base wr d)) (wantsQ t all o) = _
    rw [wantsQ_eq, opQ_eq, ← step_rest]
    simp only [runOps, ih, putQ_eq, soilQ_eq]
    cases wants t all o with
    | false => rfl
    | true =>
      simp only
      cases step E call t H o with
      | none => rfl
      | some r => exact forceA_eq r.v _

/-- Of no pair of operations must the footprints be held against each other. -/
def calm (E : Env) (ops : Array Oper) : Bool :=
  (order ops).all fun i => (order ops).all fun j => !duel E ops (Region.before ops) i j && !makesFirst E ops (Region.before ops) i j

def ordOps (ops : Array Oper) : List Nat → List Oper
  | [] => []
  | i :: r => match ops[i]? with
    | some o => o :: ordOps ops r
    | none => []

def allThere (ops : Array Oper) (l : List Nat) : Bool := l.all fun i => (ops[i]?).isSome

theorem runFoot_calm {E : Env} {call : CallFn} {base : Nat} {ops : Array Oper} (hc : calm E ops = true) : ∀ (l : List Nat), (∀ i ∈ l, i ∈ order ops) → allThere ops l = true → ∀ (t : TT) (H : Heap) (d : List Nat),
    (∃ fs, (∀ p ∈ fs, p.1 ∈ order ops) ∧ runFoot E call base ops l t H d = match runOps E call base ops.toList (ordOps ops l) t H d with | some r => some (r, fs) | none => none)
  | [], _, _, t, H, d => ⟨[], by simp, rfl⟩
  | i :: l, hl, ha, t, H, d => by
    simp only [allThere, List.all_cons, Bool.and_eq_true] at ha
    have ih := runFoot_calm (E := E) (call := call) (base := base) hc l (fun j hj => hl j (List.mem_cons_of_mem _ hj)) ha.2
    have hi := hl i (by simp)
    cases ho : ops[i]? with
    | none => rw [ho] at ha; cases ha.1
    | some o =>
      simp only [runFoot, ordOps, ho, runOps]
      cases hw : wants t ops.toList o with
      | false =>
        simp only
        obtain ⟨fs, h1, h2⟩ := ih (t.put o.dst undef) H d
        refine ⟨(i, ⟨[], false, [], H.n⟩) :: fs, fun p hp => ?_, ?_⟩
        · rcases List.mem_cons.1 hp with rfl | hp
          · exact hi
          · exact h1 p hp
        · rw [h2]
          cases runOps E call base ops.toList (ordOps ops l) (t.put o.dst undef) H d <;> rfl
      | true =>
        simp only
        cases hs : step E call t H o with
        | none => exact ⟨[], by simp, rfl⟩
        | some r =>
          simp only
          obtain ⟨fs, h1, h2⟩ := ih (t.put o.dst r.v) r.H (soil base r.wr d)
          refine ⟨(i, ⟨r.rd, r.rdAll, r.wr, H.n⟩) :: fs, fun p hp => ?_, ?_⟩
          · rcases List.mem_cons.1 hp with rfl | hp
            · exact hi
            · exact h1 p hp
          · rw [h2]
            have hq : ∀ (f : Foot) (fs : List (Nat × Foot)), (∀ p ∈ fs, p.1 ∈ order ops) → duelsOk E ops (Region.before ops) f i fs = true := by
              intro f fs
              induction fs with
              | nil => intro _; rfl
              | cons p fs ihf =>
                intro hp
                obtain ⟨j, g⟩ := p
                have := List.all_eq_true.1 (List.all_eq_true.1 hc i hi) j (hp (j, g) (by simp))
                simp only [Bool.and_eq_true, Bool.not_eq_true'] at this
                simp only [duelsOk, this.1, this.2]
                exact ihf fun p h => hp p (List.mem_cons_of_mem _ h)
            cases runOps E call base ops.toList (ordOps ops l) (t.put o.dst r.v) r.H (soil base r.wr d) with
            | none => rfl
            | some z => simp only [hq _ fs h1]

def runDrawnQ (E : Env) (call : CallFn) (base : Nat) (ops : Array Oper) (t : TT) (H : Heap) (d : List Nat) : Option ARes :=
  Bool.rec (motive := fun _ => Option ARes) (runDrawn E call base ops t H d) (runOpsQ E call base ops.toList (ordOps ops (order ops)) t H d) (drawOk E ops && calm E ops && allThere ops (order ops))

theorem runDrawnQ_eq (E : Env) (call : CallFn) (base : Nat) (ops : Array Oper) (t : TT) (H : Heap) (d : List Nat) : runDrawnQ E call base ops t H d = runDrawn E call base ops t H d := by
  unfold runDrawnQ
  cases h : drawOk E ops && calm E ops && allThere ops (order ops) with
  | false => rfl
  | true =>
    simp only [Bool.and_eq_true] at h
    obtain ⟨⟨h1, h2⟩, h3⟩ := h
    obtain ⟨fs, _, h4⟩ := runFoot_calm (E := E) (call := call) (base := base) h2 (order ops) (fun _ h => h) h3 t H d
    simp only [runOpsQ_eq]
    unfold runDrawn
    simp only [h1, h4]
    cases runOps E call base ops.toList (ordOps ops (order ops)) t H d <;> rfl

/-! Code. -/

abbrev CodeFn := Env → CallFn → ExecFn → Nat → TT → Heap → List Nat → Option ARes

def resK (r : Option ARes) (f : AExit → TT → Heap → List Nat → Option ARes) : Option ARes :=
  Option.rec (motive := fun _ => Option ARes) none (fun r => ARes.rec (motive := fun _ => Option ARes) f r) r

def skipQ : CodeFn := fun _ _ _ _ t H d => some ⟨.normal, t, H, d⟩
def regionQ (_ : Nat) (ops : Array Oper) (draw : Bool) : CodeFn := fun E call _ base t H d =>
  Bool.rec (motive := fun _ => Option ARes) (runOpsQ E call base ops.toList ops.toList t H d) (runDrawnQ E call base ops t H d) draw
def seqQ (a b : Code) (_ _ : CodeFn) : CodeFn := fun _ _ ih base t H d =>
  resK (ih base a t H d) fun e t H d => AExit.rec (motive := fun _ => Option ARes) (ih base b t H d) (fun k => some ⟨.exit k, t, H, d⟩) (some ⟨.ret, t, H, d⟩) e
def condV (v : Option Bool) (a b : Option ARes) : Option ARes := Option.rec (motive := fun _ => Option ARes) none (fun q => Bool.rec (motive := fun _ => Option ARes) b a q) v
def condQ (x : Operand) (a b : Code) (_ _ : CodeFn) : CodeFn := fun _ _ ih base t H d => condV (boolV (evalQ x t)) (ih base a t H d) (ih base b t H d)
def blockQ (id : Nat) (c : Code) (_ : CodeFn) : CodeFn := fun _ _ ih base t H d =>
  resK (ih base c t H d) fun e t H d => AExit.rec (motive := fun _ => Option ARes) (some ⟨.normal, t, H, d⟩)
    (fun k => Bool.rec (motive := fun _ => Option ARes) (some ⟨.exit k, t, H, d⟩) (some ⟨.normal, t, H, d⟩) (Nat.beq k id)) (some ⟨.ret, t, H, d⟩) e
def loopQ (c : Code) (_ : CodeFn) : CodeFn := fun _ _ ih base t H d =>
  resK (ih base c t H d) fun e t H d => AExit.rec (motive := fun _ => Option ARes) (ih base (.loop c) t H d) (fun k => some ⟨.exit k, t, H, d⟩) (some ⟨.ret, t, H, d⟩) e
def rangeFuncQ (_ : Operand) (_ : Array Tmp) (_ _ : Code) (_ _ : CodeFn) : CodeFn := fun _ _ _ _ _ _ _ => none
def exitQ (id : Nat) : CodeFn := fun _ _ _ _ t H d => some ⟨.exit id, t, H, d⟩
def scopeQ (c : Code) (_ : CodeFn) : CodeFn := fun _ _ ih base t H d => ih base c t H d
def labelQ (_ : Nat) : CodeFn := fun _ _ _ _ t H d => some ⟨.normal, t, H, d⟩
def gotoQ (_ : Nat) : CodeFn := fun _ _ _ _ _ _ _ => none
def retQ : CodeFn := fun _ _ _ _ t H d => some ⟨.ret, t, H, d⟩
def refuseQ (_ : String) : CodeFn := fun _ _ _ _ _ _ _ => none

def codeQ : Code → CodeFn :=
  Code.rec (motive := fun _ => CodeFn) skipQ regionQ seqQ condQ blockQ loopQ rangeFuncQ exitQ scopeQ labelQ gotoQ retQ refuseQ

theorem codeQ_eq (c : Code) (E : Env) (call : CallFn) (ih : ExecFn) (base : Nat) (t : TT) (H : Heap) (d : List Nat) : codeQ c E call ih base t H d = execF E call ih base c t H d := by
  cases c <;> try rfl
  case region id ops draw =>
    cases draw with
    | false => exact runOpsQ_eq E call base ops.toList ops.toList t H d
    | true => exact runDrawnQ_eq E call base ops t H d
  case seq a b =>
    show seqQ a b (codeQ a) (codeQ b) E call ih base t H d = _
    simp only [execF, seqQ]
    cases ih base a t H d with
    | none => rfl
    | some r =>
      obtain ⟨e, t1, H1, d1⟩ := r
      cases e <;> rfl
  case cond x a b =>
    show condV (boolV (evalQ x t)) (ih base a t H d) (ih base b t H d) = _
    rw [evalQ_eq]
    simp only [execF]
    cases eval t x with
    | bool q => cases q <;> rfl
    | _ => rfl
  case block id body =>
    show blockQ id body (codeQ body) E call ih base t H d = _
    simp only [execF, blockQ]
    cases ih base body t H d with
    | none => rfl
    | some r =>
      obtain ⟨e, t1, H1, d1⟩ := r
      cases e with
      | exit k =>
        simp only [resK]
        cases Nat.beq k id <;> rfl
      | _ => rfl
  case loop body =>
    show loopQ body (codeQ body) E call ih base t H d = _
    simp only [execF, loopQ]
    cases ih base body t H d with
    | none => rfl
    | some r =>
      obtain ⟨e, t1, H1, d1⟩ := r
      cases e <;> rfl

/-! Calls. -/

def resultValsQ (E : Env) (t : TT) (H : Heap) : List ResultVar → Option (List Value) :=
  List.rec (motive := fun _ => Option (List Value)) (some []) (fun x r ih => ResultVar.rec (motive := fun _ => Option (List Value))
    (fun k => Option.rec (motive := fun _ => Option (List Value)) none (fun l => some (TT.getP (way k) t :: l)) ih) (fun a ty => resultVals E t H (.cell a ty :: r)) x)

theorem resultValsQ_eq (E : Env) (t : TT) (H : Heap) : ∀ (l : List ResultVar), resultValsQ E t H l = resultVals E t H l
  | [] => rfl
  | .cell a ty :: r => rfl
  | .tmp k :: r => by
    show Option.rec (motive := fun _ => Option (List Value)) none (fun l => some (TT.getP (way k) t :: l)) (resultValsQ E t H r) = _
    rw [resultValsQ_eq E t H r]
    simp only [resultVals, TT.get]
    cases resultVals E t H r <;> rfl

def argsQ : List Value → Nat → TT → TT :=
  List.rec (motive := fun _ => Nat → TT → TT) (fun _ t => t) (fun v _ ih i t => ih (Nat.succ i) (TT.setP (way i) v t))

theorem argsQ_eq : ∀ (l : List Value) (i : Nat) (t : TT), argsQ l i t = TT.ofArgs i l t
  | [], _, _ => rfl
  | v :: l, i, t => argsQ_eq l (i + 1) (t.set i v)

def deepQ (ih : Value → Bool) (v : Value) : Bool :=
  match v with
  | .func _ a b => Bool.rec (motive := fun _ => Bool) false (allQ ih b.toList) (allQ ih a.toList)
  | .iface _ v => ih v
  | .agg cs => allQ ih cs.toList
  | .tuple cs => allQ ih cs.toList
  | _ => false

def oldQ (n : Nat) : Nat → Value → Bool :=
  Nat.rec (motive := fun _ => Value → Bool) (fun _ => false) (fun _ ih v => AV.rec (motive := fun _ => Bool) true (fun i => Nat.blt i n) (deepQ ih v) false (placeV v))

theorem oldQ_eq (n : Nat) : ∀ (f : Nat) (v : Value), oldQ n f v = oldV n f v
  | 0, v => rfl
  | f + 1, v => by
    have ih := oldQ_eq n f
    cases v with
    | pointer a => cases a <;> rfl
    | slice a l c => cases a <;> rfl
    | map m => cases m <;> rfl
    | func g a b =>
      show Bool.rec (motive := fun _ => Bool) false (allQ (oldQ n f) b.toList) (allQ (oldQ n f) a.toList) = _
      rw [allQ_eq _ _ ih, allQ_eq _ _ ih]
      simp only [oldV]
      cases a.toList.all (oldV n f) <;> rfl
    | iface t v => exact ih v
    | agg cs => exact allQ_eq _ _ ih cs.toList
    | tuple cs => exact allQ_eq _ _ ih cs.toList
    | _ => rfl

def keptQ (H : Heap) (v : Value) (Hc : Heap) (d : List Nat) : CallRes :=
  List.rec (motive := fun _ => CallRes) (Bool.rec (motive := fun _ => CallRes) ⟨v, Hc, []⟩ ⟨v, H, []⟩ (oldQ H.n 4 v)) (fun _ _ _ => ⟨v, Hc, d⟩) d

theorem keptQ_eq (H : Heap) (v : Value) (Hc : Heap) (d : List Nat) : keptQ H v Hc d = kept H v Hc d := by
  unfold keptQ kept
  rw [oldQ_eq]
  cases d with
  | cons x r => rfl
  | nil => simp only; cases oldV H.n 4 v <;> rfl

def finQ (E : Env) (H : Heap) (res : List ResultVar) (t : TT) (Hc : Heap) (d : List Nat) : Option CallRes :=
  Option.rec (motive := fun _ => Option CallRes) none (fun vs => some (keptQ H (packed vs) Hc d)) (resultValsQ E t Hc res)

def enterQ (E : Env) (exec : ExecFn) (args : List Value) (H : Heap) (fn : Func) (c : Code) : Option CallRes :=
  Bool.rec (motive := fun _ => Option CallRes) none (Option.rec (motive := fun _ => Option CallRes) none
    (fun r => ARes.rec (motive := fun _ => Option CallRes) (fun e t Hc d => AExit.rec (motive := fun _ => Option CallRes) (finQ E H fn.results.toList t Hc d) (fun _ => none) (finQ E H fn.results.toList t Hc d) e) r)
    (exec H.n c (argsQ args 0 .leaf) H [])) (Nat.ble args.length fn.ntmps)

def callFQ (E : Env) (exec : ExecFn) (f : FuncId) (args : List Value) (H : Heap) : Option CallRes :=
  Option.rec (motive := fun _ => Option CallRes)
    (Option.rec (motive := fun _ => Option CallRes) none (fun p => Prod.rec (motive := fun _ => Option CallRes) (enterQ E exec args H) p) (bodyOf E f))
    (fun r => some r) (told E f args H)

theorem callFQ_eq (E : Env) (exec : ExecFn) (f : FuncId) (args : List Value) (H : Heap) : callFQ E exec f args H = callF E exec f args H := by
  unfold callFQ callF
  cases told E f args H with
  | some r => rfl
  | none =>
    simp only
    cases bodyOf E f with
    | none => rfl
    | some p =>
      obtain ⟨fn, c⟩ := p
      simp only [enterQ, argsQ_eq]
      cases Nat.ble args.length fn.ntmps with
      | false => rfl
      | true =>
        simp only
        cases exec H.n c (TT.ofArgs 0 args .leaf) H [] with
        | none => rfl
        | some r =>
          obtain ⟨e, t, Hc, d⟩ := r
          have hf : finQ E H fn.results.toList t Hc d = (match resultVals E t Hc fn.results.toList with | some vs => some (kept H (packed vs) Hc d) | none => none) := by
            unfold finQ
            rw [resultValsQ_eq]
            cases resultVals E t Hc fn.results.toList with
            | none => rfl
            | some vs => simp only [keptQ_eq]
          cases e with
          | normal => exact hf
          | exit k => rfl
          | ret => exact hf

def execQ (E : Env) : Nat → ExecFn := Nat.rec (motive := fun _ => ExecFn) (fun _ _ _ _ _ => none) (fun _ ih base c t H d => codeQ c E (callFQ E ih) ih base t H d)

def callQ (E : Env) (n : Nat) : FuncId → List Value → Heap → Option CallRes := callFQ E (execQ E n)

theorem execQ_eq (E : Env) : ∀ n, execQ E n = exec E n
  | 0 => rfl
  | n + 1 => by
    funext base c t H d
    show codeQ c E (callFQ E (execQ E n)) (execQ E n) base t H d = execF E (callF E (exec E n)) (exec E n) base c t H d
    rw [codeQ_eq, execQ_eq E n]
    congr 1
    funext f args H
    exact callFQ_eq E (exec E n) f args H

/-- The same word. -/
theorem callQ_eq (E : Env) (n : Nat) (f : FuncId) (args : List Value) (H : Heap) : callQ E n f args H = call E n f args H := by
  unfold callQ call
  rw [callFQ_eq, execQ_eq]

end
end Go.AM

namespace Go.AM
noncomputable section

/-- What is listed of a function: of each drawn region its number, whether its order is its text's, and the pairs: (i, j, true): apart; (i, j, false): what i makes j does not write. -/
abbrev Regs := List (Nat × Bool × List (Nat × Nat × Bool))

def findR (id : Nat) : Regs → Option (Bool × List (Nat × Nat × Bool)) :=
  List.rec (motive := fun _ => Option (Bool × List (Nat × Nat × Bool))) none (fun p _ ih => Bool.rec (motive := fun _ => Option (Bool × List (Nat × Nat × Bool))) ih (some p.2) (Nat.beq p.1 id))

def memP (l : List (Nat × Nat × Bool)) (i j : Nat) (k : Bool) : Bool := l.any fun p => Nat.beq p.1 i && (Nat.beq p.2.1 j && (p.2.2 == k))

def coverOne (E : Env) (ops : Array Oper) (b : Array Nat) (ps : List (Nat × Nat × Bool)) (i j : Nat) : Bool :=
  match duel E ops b i j with
  | true => memP ps i j true
  | false => match makesFirst E ops b i j with
    | true => memP ps i j false
    | false => true

def cover (E : Env) (ops : Array Oper) (b : Array Nat) (ps : List (Nat × Nat × Bool)) : List Nat → Bool
  | [] => true
  | i :: r => (r.all fun j => coverOne E ops b ps i j) && cover E ops b ps r

def sameL : List Nat → List Nat → Bool
  | [], [] => true
  | x :: l, y :: m => Nat.beq x y && sameL l m
  | _, _ => false

def nodupL : List Nat → Bool
  | [] => true
  | x :: r => !hasN r x && nodupL r

/-- A drawn region is in order. -/
def regV (E : Env) (ops : Array Oper) (q : Bool × List (Nat × Nat × Bool)) : Bool :=
  drawOk E ops && allThere ops (order ops) && nodupL (order ops) && cover E ops (Region.before ops) q.2 (order ops) && (!q.1 || sameL (order ops) (List.range ops.size))

def regsV (E : Env) (l : Regs) : Code → Bool
  | .region id ops draw => match draw with
    | true => match findR id l with
      | some q => regV E ops q
      | none => true
    | false => true
  | .seq a b => regsV E l a && regsV E l b
  | .cond _ a b => regsV E l a && regsV E l b
  | .block _ b => regsV E l b
  | .loop b => regsV E l b
  | .scope b => regsV E l b
  | _ => true

theorem sameL_spec : ∀ {l m : List Nat}, sameL l m = true → l = m
  | [], [], _ => rfl
  | x :: l, y :: m, h => by
    simp only [sameL, Bool.and_eq_true] at h
    rw [Nat.eq_of_beq_eq_true h.1, sameL_spec h.2]

theorem nodupL_spec : ∀ {l : List Nat}, nodupL l = true → l.Nodup
  | [], _ => List.nodup_nil
  | x :: r, h => by
    simp only [nodupL, Bool.and_eq_true, Bool.not_eq_true'] at h
    refine List.nodup_cons.2 ⟨fun hm => ?_, nodupL_spec h.2⟩
    have : hasN r x = true := List.any_eq_true.2 ⟨x, hm, by simp⟩
    rw [this] at h
    cases h.1

/-- The operations in an order, with their footprints; nothing is held against each other. -/
def stepF (r : Option OpRes) (f : OpRes → Option (ARes × List (Nat × Foot))) : Option (ARes × List (Nat × Foot)) := Option.rec (motive := fun _ => Option (ARes × List (Nat × Foot))) none f r
def addF (p : Nat × Foot) (r : Option (ARes × List (Nat × Foot))) : Option (ARes × List (Nat × Foot)) := Option.rec (motive := fun _ => Option (ARes × List (Nat × Foot))) none (fun z => some (z.1, p :: z.2)) r

def runFT (E : Env) (call : CallFn) (base : Nat) (ops : Array Oper) : List Nat → TT → Heap → List Nat → Option (ARes × List (Nat × Foot)) :=
  List.rec (motive := fun _ => TT → Heap → List Nat → Option (ARes × List (Nat × Foot))) (fun t H d => some (⟨.normal, t, H, d⟩, []))
    (fun i _ ih t H d => Option.rec (motive := fun _ => Option (ARes × List (Nat × Foot))) none
      (fun o => Bool.rec (motive := fun _ => Option (ARes × List (Nat × Foot))) (addF (i, ⟨[], false, [], H.n⟩) (ih (putQ o.dst undef t) H d))
        (stepF (opQ o.op E call t H) fun r => addF (i, ⟨r.rd, r.rdAll, r.wr, H.n⟩) (ih (putQ o.dst r.v t) r.H (soilQ base r.wr d))) (wantsQ t ops.toList o)) (ops[i]?))

def footOf (i : Nat) : List (Nat × Foot) → Option Foot :=
  List.rec (motive := fun _ => Option Foot) none (fun p _ ih => Bool.rec (motive := fun _ => Option Foot) ih (some p.2) (Nat.beq p.1 i))

def pairHolds (fs : List (Nat × Foot)) (p : Nat × Nat × Bool) : Bool :=
  match footOf p.1 fs, footOf p.2.1 fs with
  | some f, some g => match p.2.2 with
    | true => f.apart g
    | false => f.unmade g
  | _, _ => false

theorem runFT_map {E : Env} {call : CallFn} {base : Nat} {ops : Array Oper} : ∀ (l : List Nat) (t : TT) (H : Heap) (d : List Nat) (z : ARes) (fs : List (Nat × Foot)), runFT E call base ops l t H d = some (z, fs) → fs.map (·.1) = l
| [], t, H, d, z, fs, h => by
  have : some ((⟨.normal, t, H, d⟩ : ARes), ([] : List (Nat × Foot))) = some (z, fs) := h
  cases this
  rfl
| i :: l, t, H, d, z, fs, h => by
  have hstep : runFT E call base ops (i :: l) t H d = Option.rec (motive := fun _ => Option (ARes × List (Nat × Foot))) none
    (fun o => Bool.rec (motive := fun _ => Option (ARes × List (Nat × Foot))) (addF (i, ⟨[], false, [], H.n⟩) (runFT E call base ops l (putQ o.dst undef t) H d))
      (stepF (opQ o.op E call t H) fun r => addF (i, ⟨r.rd, r.rdAll, r.wr, H.n⟩) (runFT E call base ops l (putQ o.dst r.v t) r.H (soilQ base r.wr d))) (wantsQ t ops.toList o)) (ops[i]?) := rfl
  rw [hstep] at h
  have add : ∀ (p : Nat × Foot) (x : Option (ARes × List (Nat × Foot))), addF p x = some (z, fs) → ∃ fs', x = some (z, fs') ∧ fs = p :: fs' := by
    intro p x hx
    cases x with
    | none => cases hx
    | some q =>
      obtain ⟨z', fs'⟩ := q
      simp only [addF, Option.some.injEq, Prod.mk.injEq] at hx
      obtain ⟨rfl, rfl⟩ := hx
      exact ⟨fs', rfl, rfl⟩
  cases ho : ops[i]? with
  | none => rw [ho] at h; cases h
  | some o =>
    rw [ho] at h
    cases hw : wantsQ t ops.toList o with
    | false =>
      simp only [hw] at h
      obtain ⟨fs', h1, rfl⟩ := add _ _ h
      simp [runFT_map l _ _ _ _ _ h1]
    | true =>
      simp only [hw] at h
      cases hs : opQ o.op E call t H with
      | none => rw [hs] at h; cases h
      | some r =>
        rw [hs] at h
        obtain ⟨fs', h1, rfl⟩ := add _ _ h
        simp [runFT_map l _ _ _ _ _ h1]

/-- The footprints of a run, one for each operation, in the order in which they were carried out. -/
theorem runFT_spec {E : Env} {call : CallFn} {base : Nat} {ops : Array Oper} {b : Array Nat} (hb : b = Region.before ops) {ps : List (Nat × Nat × Bool)} : ∀ (l : List Nat) (t : TT) (H : Heap) (d : List Nat) (z : ARes) (fs : List (Nat × Foot)),
    l.Nodup → runFT E call base ops l t H d = some (z, fs) → cover E ops b ps l = true → (∀ p, p ∈ ps → ∀ f g, footOf p.1 fs = some f → footOf p.2.1 fs = some g → (p.2.2 = true → f.apart g = true) ∧ (p.2.2 = false → f.unmade g = true)) →
    fs.map (·.1) = l ∧ runFoot E call base ops l t H d = some (z, fs)
  | [], t, H, d, z, fs, _, h, _, _ => by
    have : some ((⟨.normal, t, H, d⟩ : ARes), ([] : List (Nat × Foot))) = some (z, fs) := h
    cases this
    exact ⟨rfl, rfl⟩
  | i :: l, t, H, d, z, fs, hnd, h, hc, hp => by
    obtain ⟨hni, hnd'⟩ := List.nodup_cons.1 hnd
    simp only [cover, Bool.and_eq_true] at hc
    have hstep : runFT E call base ops (i :: l) t H d = Option.rec (motive := fun _ => Option (ARes × List (Nat × Foot))) none
      (fun o => Bool.rec (motive := fun _ => Option (ARes × List (Nat × Foot))) (addF (i, ⟨[], false, [], H.n⟩) (runFT E call base ops l (putQ o.dst undef t) H d))
        (stepF (opQ o.op E call t H) fun r => addF (i, ⟨r.rd, r.rdAll, r.wr, H.n⟩) (runFT E call base ops l (putQ o.dst r.v t) r.H (soilQ base r.wr d))) (wantsQ t ops.toList o)) (ops[i]?) := rfl
    rw [hstep] at h
    cases ho : ops[i]? with
    | none => rw [ho] at h; cases h
    | some o =>
      rw [ho] at h
      simp only [wantsQ_eq, opQ_eq, putQ_eq, soilQ_eq] at h
      have sub : ∀ (f0 : Foot) (fs' : List (Nat × Foot)), fs = (i, f0) :: fs' → fs'.map (·.1) = l → ∀ j g, footOf j fs' = some g → footOf j fs = some g := by
        intro f0 fs' e em j g hg
        subst e
        have hji : Nat.beq i j = false := by
          cases hb' : Nat.beq i j with
          | false => rfl
          | true =>
            exfalso
            have e' := Nat.eq_of_beq_eq_true hb'
            subst e'
            have : ∀ (fs : List (Nat × Foot)) (j : Nat) (g : Foot), footOf j fs = some g → j ∈ fs.map (·.1) := by
              intro fs
              induction fs with
              | nil => intro j g h; cases h
              | cons p r ih =>
                intro j g h
                have hr : footOf j (p :: r) = Bool.rec (motive := fun _ => Option Foot) (footOf j r) (some p.2) (Nat.beq p.1 j) := rfl
                rw [hr] at h
                cases hb2 : Nat.beq p.1 j with
                | true => exact List.mem_map.2 ⟨p, by simp, Nat.eq_of_beq_eq_true hb2⟩
                | false => rw [hb2] at h; exact List.mem_cons_of_mem _ (ih j g h)
            have := this fs' i g hg
            rw [em] at this
            exact hni this
        show Bool.rec (motive := fun _ => Option Foot) (footOf j fs') (some f0) (Nat.beq i j) = some g
        rw [hji]
        exact hg
      cases hw : wants t ops.toList o with
      | false =>
        rw [hw] at h
        simp only [addF] at h
        cases hr : runFT E call base ops l (t.put o.dst undef) H d with
        | none => rw [hr] at h; cases h
        | some q =>
          obtain ⟨z', fs'⟩ := q
          rw [hr] at h
          simp only [Option.some.injEq, Prod.mk.injEq] at h
          obtain ⟨rfl, rfl⟩ := h
          have hmap : fs'.map (·.1) = l := runFT_map l _ _ _ _ _ hr
          obtain ⟨h1, h2⟩ := runFT_spec hb l _ _ _ _ _ hnd' hr hc.2 (fun p hpm f g hf hg => hp p hpm f g (sub _ fs' rfl hmap _ _ hf) (sub _ fs' rfl hmap _ _ hg))
          refine ⟨by simp [h1], ?_⟩
          simp only [runFoot, ho, hw, h2]
      | true =>
        rw [hw] at h
        simp only [stepF] at h
        rw [← step_rest] at h
        cases hs : step E call t H o with
        | none => rw [hs] at h; cases h
        | some r =>
          rw [hs] at h
          simp only [addF] at h
          cases hr : runFT E call base ops l (t.put o.dst r.v) r.H (soil base r.wr d) with
          | none => rw [hr] at h; cases h
          | some q =>
            obtain ⟨z', fs'⟩ := q
            rw [hr] at h
            simp only [Option.some.injEq, Prod.mk.injEq] at h
            obtain ⟨rfl, rfl⟩ := h
            have hmap : fs'.map (·.1) = l := runFT_map l _ _ _ _ _ hr
            obtain ⟨h1, h2⟩ := runFT_spec hb l _ _ _ _ _ hnd' hr hc.2 (fun p hpm f g hf hg => hp p hpm f g (sub _ fs' rfl hmap _ _ hf) (sub _ fs' rfl hmap _ _ hg))
            refine ⟨by simp [h1], ?_⟩
            have hd : ∀ (fs2 : List (Nat × Foot)), (∀ q ∈ fs2, q.1 ∈ l ∧ footOf q.1 fs' = some q.2) → duelsOk E ops (Region.before ops) ⟨r.rd, r.rdAll, r.wr, H.n⟩ i fs2 = true := by
              intro fs2
              induction fs2 with
              | nil => intro _; rfl
              | cons q fs2 ihq =>
                intro hq
                obtain ⟨j, g⟩ := q
                obtain ⟨hj, hfj⟩ := hq (j, g) (by simp)
                have hrest := ihq fun q hq' => hq q (List.mem_cons_of_mem _ hq')
                have hone := List.all_eq_true.1 hc.1 j hj
                have hfi : footOf i ((i, (⟨r.rd, r.rdAll, r.wr, H.n⟩ : Foot)) :: fs') = some ⟨r.rd, r.rdAll, r.wr, H.n⟩ := by
                  show Bool.rec (motive := fun _ => Option Foot) _ (some _) (Nat.beq i i) = _
                  rw [Nat.beq_refl]
                have hfj' := sub _ fs' rfl hmap j g hfj
                have use : ∀ k, memP ps i j k = true → (k = true → Foot.apart ⟨r.rd, r.rdAll, r.wr, H.n⟩ g = true) ∧ (k = false → Foot.unmade ⟨r.rd, r.rdAll, r.wr, H.n⟩ g = true) := by
                  intro k hk
                  obtain ⟨p, hpm, he⟩ := List.any_eq_true.1 hk
                  simp only [Bool.and_eq_true, beq_iff_eq] at he
                  obtain ⟨e1, e2, e3⟩ := he
                  have e1' := Nat.eq_of_beq_eq_true e1
                  have e2' := Nat.eq_of_beq_eq_true e2
                  have := hp p hpm ⟨r.rd, r.rdAll, r.wr, H.n⟩ g (by rw [e1']; exact hfi) (by rw [e2']; exact hfj')
                  rw [e3] at this
                  exact this
                subst hb
                unfold coverOne at hone
                simp only [duelsOk]
                cases hdu : duel E ops (Region.before ops) i j with
                | true =>
                  rw [hdu] at hone
                  simp only [(use true hone).1 rfl, hrest]
                | false =>
                  rw [hdu] at hone
                  simp only at hone ⊢
                  cases hmf : makesFirst E ops (Region.before ops) i j with
                  | true =>
                    rw [hmf] at hone
                    simp only [(use false hone).2 rfl, hrest]
                  | false => simp only [hrest]
            have hall : ∀ q ∈ fs', q.1 ∈ l ∧ footOf q.1 fs' = some q.2 := by
              have gen : ∀ (fs : List (Nat × Foot)), (fs.map (·.1)).Nodup → ∀ q ∈ fs, footOf q.1 fs = some q.2 := by
                intro fs
                induction fs with
                | nil => intro _ q hq; cases hq
                | cons p r ih =>
                  intro hn q hq
                  obtain ⟨n1, n2⟩ := List.nodup_cons.1 hn
                  show Bool.rec (motive := fun _ => Option Foot) (footOf q.1 r) (some p.2) (Nat.beq p.1 q.1) = _
                  rcases List.mem_cons.1 hq with rfl | hq
                  · rw [Nat.beq_refl]
                  · have : Nat.beq p.1 q.1 = false := by
                      cases hb2 : Nat.beq p.1 q.1 with
                      | false => rfl
                      | true =>
                        exfalso
                        exact n1 (List.mem_map.2 ⟨q, hq, (Nat.eq_of_beq_eq_true hb2).symm⟩)
                    rw [this]
                    exact ih n2 q hq
              intro q hq
              exact ⟨by rw [← hmap]; exact List.mem_map.2 ⟨q, hq, rfl⟩, gen fs' (by rw [hmap]; exact hnd') q hq⟩
            simp only [runFoot, ho, hw, hs, h2, hd fs' hall]

/-- A drawn region that has been looked through. -/
def runDT (E : Env) (call : CallFn) (base : Nat) (ops : Array Oper) (q : Bool × List (Nat × Nat × Bool)) (t : TT) (H : Heap) (d : List Nat) : Option ARes :=
  List.rec (motive := fun _ => Option ARes)
    (Bool.rec (motive := fun _ => Option ARes) (runOpsQ E call base ops.toList (ordOps ops (order ops)) t H d) (runOpsQ E call base ops.toList ops.toList t H d) q.1)
    (fun _ _ _ => Option.rec (motive := fun _ => Option ARes) none
      (fun z => Bool.rec (motive := fun _ => Option ARes) none (some z.1) (q.2.all (pairHolds z.2)))
      (runFT E call base ops (Bool.rec (motive := fun _ => List Nat) (order ops) (List.range ops.size) q.1) t H d)) q.2

theorem cover_calm {E : Env} {ops : Array Oper} : ∀ (l : List Nat), l.Nodup → cover E ops (Region.before ops) [] l = true → ∀ (call : CallFn) (base : Nat) (t : TT) (H : Heap) (d : List Nat) (z : ARes) (fs : List (Nat × Foot)),
    runFT E call base ops l t H d = some (z, fs) → runFoot E call base ops l t H d = some (z, fs) :=
  fun l hn hc _ _ t H d z fs h => (runFT_spec rfl l t H d z fs hn h hc (fun p hp => by cases hp)).2

theorem runFT_ops {E : Env} {call : CallFn} {base : Nat} {ops : Array Oper} : ∀ (l : List Nat), allThere ops l = true → ∀ (t : TT) (H : Heap) (d : List Nat) (z : ARes), runOps E call base ops.toList (ordOps ops l) t H d = some z → ∃ fs, runFT E call base ops l t H d = some (z, fs)
  | [], _, t, H, d, z, h => by
    simp only [ordOps, runOps, Option.some.injEq] at h
    subst h
    exact ⟨[], rfl⟩
  | i :: l, ha, t, H, d, z, h => by
    simp only [allThere, List.all_cons, Bool.and_eq_true] at ha
    have hstep : runFT E call base ops (i :: l) t H d = Option.rec (motive := fun _ => Option (ARes × List (Nat × Foot))) none
      (fun o => Bool.rec (motive := fun _ => Option (ARes × List (Nat × Foot))) (addF (i, ⟨[], false, [], H.n⟩) (runFT E call base ops l (putQ o.dst undef t) H d))
        (stepF (opQ o.op E call t H) fun r => addF (i, ⟨r.rd, r.rdAll, r.wr, H.n⟩) (runFT E call base ops l (putQ o.dst r.v t) r.H (soilQ base r.wr d))) (wantsQ t ops.toList o)) (ops[i]?) := rfl
    rw [hstep]
    cases ho : ops[i]? with
    | none => rw [ho] at ha; cases ha.1
    | some o =>
      simp only [ordOps, ho, runOps] at h
      simp only [wantsQ_eq, opQ_eq, putQ_eq, soilQ_eq]
      cases hw : wants t ops.toList o with
      | false =>
        simp only [hw] at h ⊢
        obtain ⟨fs, h1⟩ := runFT_ops l ha.2 _ _ _ _ h
        exact ⟨_, by rw [h1]; rfl⟩
      | true =>
        simp only [hw] at h ⊢
        rw [← step_rest]
        cases hs : step E call t H o with
        | none => simp [hs] at h
        | some r =>
          simp only [hs] at h
          obtain ⟨fs, h1⟩ := runFT_ops l ha.2 _ _ _ _ h
          exact ⟨_, by simp only [stepF]; rw [h1]; rfl⟩

theorem ordOps_range (ops : Array Oper) : ordOps ops (List.range ops.size) = ops.toList := by
  have gen : ∀ (n k : Nat), k + n = ops.size → ordOps ops (List.range' k n) = ops.toList.drop k := by
    intro n
    induction n with
    | zero =>
      intro k hk
      have : ops.toList.drop k = [] := List.drop_eq_nil_of_le (by simp; omega)
      rw [this]
      rfl
    | succ n ih =>
      intro k hk
      have hlt : k < ops.size := by omega
      have hlt' : k < ops.toList.length := by simpa using hlt
      have hget : ops[k]? = some ops.toList[k] := by simp [hlt]
      rw [List.range'_succ]
      simp only [ordOps, hget]
      rw [ih (k + 1) (by omega)]
      exact (List.drop_eq_getElem_cons hlt').symm
  rw [List.range_eq_range', gen ops.size 0 (by omega)]
  rfl

theorem runDT_sound {E : Env} {call : CallFn} {base : Nat} {ops : Array Oper} {q : Bool × List (Nat × Nat × Bool)} {t : TT} {H : Heap} {d : List Nat} {z : ARes} (hv : regV E ops q = true) (h : runDT E call base ops q t H d = some z) : runDrawn E call base ops t H d = some z := by
  obtain ⟨b, ps⟩ := q
  simp only [regV, Bool.and_eq_true] at hv
  obtain ⟨⟨⟨⟨h1, h2⟩, h3⟩, h4⟩, h5⟩ := hv
  have hnd := nodupL_spec h3
  have hord : b = true → order ops = List.range ops.size := fun hb => by
    subst hb
    simp at h5
    exact sameL_spec h5
  have hl : (Bool.rec (motive := fun _ => List Nat) (order ops) (List.range ops.size) b) = order ops := by
    cases b with
    | false => rfl
    | true => exact (hord rfl).symm
  have fin : ∀ fs, runFoot E call base ops (order ops) t H d = some (z, fs) → runDrawn E call base ops t H d = some z := fun fs hf => by
    unfold runDrawn
    simp only [h1, hf]
  cases ps with
  | nil =>
    have h' : (Bool.rec (motive := fun _ => Option ARes) (runOpsQ E call base ops.toList (ordOps ops (order ops)) t H d) (runOpsQ E call base ops.toList ops.toList t H d) b) = some z := h
    have h'' : runOps E call base ops.toList (ordOps ops (order ops)) t H d = some z := by
      cases b with
      | false => simpa only [runOpsQ_eq] using h'
      | true => rw [hord rfl, ordOps_range]; simpa only [runOpsQ_eq] using h'
    obtain ⟨fs, hf⟩ := runFT_ops (order ops) h2 t H d z h''
    exact fin fs (cover_calm (order ops) hnd h4 call base t H d z fs hf)
  | cons p r =>
    have h' : Option.rec (motive := fun _ => Option ARes) none (fun z => Bool.rec (motive := fun _ => Option ARes) none (some z.1) ((p :: r).all (pairHolds z.2)))
      (runFT E call base ops (Bool.rec (motive := fun _ => List Nat) (order ops) (List.range ops.size) b) t H d) = some z := h
    rw [hl] at h'
    cases hr : runFT E call base ops (order ops) t H d with
    | none => rw [hr] at h'; cases h'
    | some w =>
      obtain ⟨z', fs⟩ := w
      rw [hr] at h'
      simp only at h'
      cases hall : (p :: r).all (pairHolds fs) with
      | false => rw [hall] at h'; cases h'
      | true =>
        rw [hall] at h'
        cases h'
        refine fin fs (runFT_spec rfl (order ops) t H d z fs hnd hr h4 fun x hx f g hf hg => ?_).2
        have := List.all_eq_true.1 hall x hx
        unfold pairHolds at this
        rw [hf, hg] at this
        simp only at this
        cases hk : x.2.2 with
        | true => rw [hk] at this; exact ⟨fun _ => this, (fun e => by cases e)⟩
        | false => rw [hk] at this; exact ⟨(fun e => by cases e), fun _ => this⟩

/-! Code. -/

abbrev ExecT := Regs → ExecFn
abbrev CodeT := Env → CallFn → ExecT → Regs → Nat → TT → Heap → List Nat → Option ARes

def regionT (id : Nat) (ops : Array Oper) (draw : Bool) : CodeT := fun E call _ l base t H d =>
  Bool.rec (motive := fun _ => Option ARes) (runOpsQ E call base ops.toList ops.toList t H d)
    (Option.rec (motive := fun _ => Option ARes) (runDrawnQ E call base ops t H d) (fun q => runDT E call base ops q t H d) (findR id l)) draw
def skipT : CodeT := fun _ _ _ _ _ t H d => some ⟨.normal, t, H, d⟩
def seqT (a b : Code) (_ _ : CodeT) : CodeT := fun _ _ ih l base t H d =>
  resK (ih l base a t H d) fun e t H d => AExit.rec (motive := fun _ => Option ARes) (ih l base b t H d) (fun k => some ⟨.exit k, t, H, d⟩) (some ⟨.ret, t, H, d⟩) e
def condT (x : Operand) (a b : Code) (_ _ : CodeT) : CodeT := fun _ _ ih l base t H d => condV (boolV (evalQ x t)) (ih l base a t H d) (ih l base b t H d)
def blockT (id : Nat) (c : Code) (_ : CodeT) : CodeT := fun _ _ ih l base t H d =>
  resK (ih l base c t H d) fun e t H d => AExit.rec (motive := fun _ => Option ARes) (some ⟨.normal, t, H, d⟩)
    (fun k => Bool.rec (motive := fun _ => Option ARes) (some ⟨.exit k, t, H, d⟩) (some ⟨.normal, t, H, d⟩) (Nat.beq k id)) (some ⟨.ret, t, H, d⟩) e
def loopT (c : Code) (_ : CodeT) : CodeT := fun _ _ ih l base t H d =>
  resK (ih l base c t H d) fun e t H d => AExit.rec (motive := fun _ => Option ARes) (ih l base (.loop c) t H d) (fun k => some ⟨.exit k, t, H, d⟩) (some ⟨.ret, t, H, d⟩) e
def rangeFuncT (_ : Operand) (_ : Array Tmp) (_ _ : Code) (_ _ : CodeT) : CodeT := fun _ _ _ _ _ _ _ _ => none
def exitT (id : Nat) : CodeT := fun _ _ _ _ _ t H d => some ⟨.exit id, t, H, d⟩
def scopeT (c : Code) (_ : CodeT) : CodeT := fun _ _ ih l base t H d => ih l base c t H d
def labelT (_ : Nat) : CodeT := fun _ _ _ _ _ t H d => some ⟨.normal, t, H, d⟩
def gotoT (_ : Nat) : CodeT := fun _ _ _ _ _ _ _ _ => none
def retT : CodeT := fun _ _ _ _ _ t H d => some ⟨.ret, t, H, d⟩
def refuseT (_ : String) : CodeT := fun _ _ _ _ _ _ _ _ => none

def codeT : Code → CodeT :=
  Code.rec (motive := fun _ => CodeT) skipT regionT seqT condT blockT loopT rangeFuncT exitT scopeT labelT gotoT retT refuseT

/-- The functions that have been looked through: a tree by number. -/
inductive FT where
  | leaf
  | node (k : Nat) (l : Regs) (a b : FT)

def FT.get (k : Nat) : FT → Option Regs :=
  FT.rec (motive := fun _ => Option Regs) none (fun j l _ _ a b => Bool.rec (motive := fun _ => Option Regs) (Bool.rec (motive := fun _ => Option Regs) b a (Nat.blt k j)) (some l) (Nat.beq k j))

def FT.all (f : Nat → Regs → Bool) : FT → Bool
  | .leaf => true
  | .node k l a b => f k l && (a.all f && b.all f)

theorem FT.get_all {f : Nat → Regs → Bool} {k : Nat} {l : Regs} : ∀ {T : FT}, T.all f = true → T.get k = some l → f k l = true
  | .leaf, _, h => by cases h
  | .node j m a b, ha, h => by
    simp only [FT.all, Bool.and_eq_true] at ha
    have h' : Bool.rec (motive := fun _ => Option Regs) (Bool.rec (motive := fun _ => Option Regs) (b.get k) (a.get k) (Nat.blt k j)) (some m) (Nat.beq k j) = some l := h
    cases hb : Nat.beq k j with
    | true =>
      rw [hb] at h'
      cases h'
      rw [Nat.eq_of_beq_eq_true hb]
      exact ha.1
    | false =>
      rw [hb] at h'
      simp only at h'
      cases hl : Nat.blt k j with
      | true => rw [hl] at h'; exact FT.get_all ha.2.1 h'
      | false => rw [hl] at h'; exact FT.get_all ha.2.2 h'

/-- A function has been looked through. -/
def funV (E : Env) (f : Nat) (l : Regs) : Bool :=
  match bodyOf E f with
  | some (_, c) => regsV E l c
  | none => false

def TabOk (E : Env) (T : FT) : Prop := T.all (funV E) = true

/-- The body of a function, nothing asked. -/
def bodyU (E : Env) (f : FuncId) : Option (Func × Code) :=
  match E.P.funcs[f]? with
  | some fn => match fn.body with
    | some c => some (fn, c)
    | none => none
  | none => none

theorem bodyU_of {E : Env} {f : FuncId} {q : Func × Code} (h : bodyOf E f = some q) : bodyU E f = some q := by
  obtain ⟨fn, c⟩ := q
  obtain ⟨h1, h2, _⟩ := bodyOf_spec h
  unfold bodyU
  simp only [h1, h2]

def callFT (E : Env) (T : FT) (exec : ExecT) (f : FuncId) (args : List Value) (H : Heap) : Option CallRes :=
  Option.rec (motive := fun _ => Option CallRes)
    (Option.rec (motive := fun _ => Option CallRes)
      (Option.rec (motive := fun _ => Option CallRes) none (fun p => Prod.rec (motive := fun _ => Option CallRes) (enterQ E (exec []) args H) p) (bodyOf E f))
      (fun l => Option.rec (motive := fun _ => Option CallRes) none (fun p => Prod.rec (motive := fun _ => Option CallRes) (enterQ E (exec l) args H) p) (bodyU E f)) (T.get f))
    (fun r => some r) (told E f args H)

def execT (E : Env) (T : FT) : Nat → ExecT := Nat.rec (motive := fun _ => ExecT) (fun _ _ _ _ _ _ => none) (fun _ ih l base c t H d => codeT c E (callFT E T ih) ih l base t H d)

def callT (E : Env) (T : FT) (n : Nat) : FuncId → List Value → Heap → Option CallRes := callFT E T (execT E T n)

theorem regsV_nil (E : Env) : ∀ c : Code, regsV E [] c = true
  | .region id ops draw => by cases draw <;> rfl
  | .seq a b => by simp only [regsV, regsV_nil E a, regsV_nil E b, Bool.and_self]
  | .cond _ a b => by simp only [regsV, regsV_nil E a, regsV_nil E b, Bool.and_self]
  | .block _ b => regsV_nil E b
  | .loop b => regsV_nil E b
  | .scope b => regsV_nil E b
  | .skip | .rangeFunc .. | .exit _ | .label _ | .goto _ | .ret | .refuse _ => rfl

/-- What is wanted of a level: where it comes to a word, the plain evaluator comes to the same. -/
def LeT (E : Env) (x : ExecT) (y : ExecFn) : Prop := ∀ l base c t H d r, regsV E l c = true → x l base c t H d = some r → y base c t H d = some r

theorem callFT_le {E : Env} {T : FT} {x : ExecT} {y : ExecFn} (hT : TabOk E T) (hx : LeT E x y) : CallLe (callFT E T x) (callF E y) := by
  intro f args H r h
  rw [← callFQ_eq]
  unfold callFT at h
  unfold callFQ
  cases ht : told E f args H with
  | some r' => rw [ht] at h; exact h
  | none =>
    rw [ht] at h
    simp only at h ⊢
    have enter : ∀ (l : Regs) (fn : Func) (c : Code), regsV E l c = true → enterQ E (x l) args H fn c = some r → enterQ E y args H fn c = some r := by
      intro l fn c hv he
      unfold enterQ at he ⊢
      cases hb : Nat.ble args.length fn.ntmps with
      | false => rw [hb] at he; cases he
      | true =>
        rw [hb] at he
        simp only at he ⊢
        cases hr : x l H.n c (argsQ args 0 .leaf) H [] with
        | none => rw [hr] at he; cases he
        | some z => rw [hr] at he; rw [hx l _ c _ _ _ z hv hr]; exact he
    cases hg : T.get f with
    | none =>
      rw [hg] at h
      simp only at h
      cases hb : bodyOf E f with
      | none => rw [hb] at h; cases h
      | some p =>
        rw [hb] at h
        obtain ⟨fn, c⟩ := p
        exact enter [] fn c (regsV_nil E c) h
    | some l =>
      rw [hg] at h
      simp only at h
      have hv := FT.get_all (f := funV E) hT hg
      unfold funV at hv
      cases hb : bodyOf E f with
      | none => rw [hb] at hv; cases hv
      | some p =>
        rw [hb] at hv
        rw [bodyU_of hb] at h
        obtain ⟨fn, c⟩ := p
        exact enter l fn c hv h

theorem execT_le {E : Env} {T : FT} (hT : TabOk E T) : ∀ n, LeT E (execT E T n) (exec E n)
  | 0 => fun _ _ _ _ _ _ _ _ h => by cases h
  | n + 1 => by
    have hx := execT_le hT n
    have hc : CallLe (callFT E T (execT E T n)) (callF E (exec E n)) := callFT_le hT hx
    intro l base c t H d r hv h
    have h' : codeT c E (callFT E T (execT E T n)) (execT E T n) l base t H d = some r := h
    show execF E (callF E (exec E n)) (exec E n) base c t H d = some r
    cases c with
    | skip => exact h'
    | region id ops draw =>
      cases draw with
      | false =>
        have h2 : runOpsQ E (callFT E T (execT E T n)) base ops.toList ops.toList t H d = some r := h'
        rw [runOpsQ_eq] at h2
        exact runOps_mono hc _ h2
      | true =>
        have h2 : Option.rec (motive := fun _ => Option ARes) (runDrawnQ E (callFT E T (execT E T n)) base ops t H d) (fun q => runDT E (callFT E T (execT E T n)) base ops q t H d) (findR id l) = some r := h'
        simp only [regsV] at hv
        cases hf : findR id l with
        | none =>
          rw [hf] at h2
          simp only [runDrawnQ_eq] at h2
          exact runDrawn_mono hc h2
        | some q =>
          rw [hf] at h2 hv
          exact runDrawn_mono hc (runDT_sound hv h2)
    | seq a b =>
      simp only [regsV, Bool.and_eq_true] at hv
      have h2 : seqT a b (codeT a) (codeT b) E (callFT E T (execT E T n)) (execT E T n) l base t H d = some r := h'
      unfold seqT at h2
      simp only [execF]
      cases hr : execT E T n l base a t H d with
      | none => rw [hr] at h2; cases h2
      | some z =>
        obtain ⟨e, t1, H1, d1⟩ := z
        rw [hr] at h2
        rw [hx _ _ _ _ _ _ _ hv.1 hr]
        cases e with
        | normal => exact hx _ _ _ _ _ _ _ hv.2 h2
        | exit k => exact h2
        | ret => exact h2
    | cond x a b =>
      simp only [regsV, Bool.and_eq_true] at hv
      have h2 : condV (boolV (evalQ x t)) (execT E T n l base a t H d) (execT E T n l base b t H d) = some r := h'
      rw [evalQ_eq] at h2
      simp only [execF]
      cases he : eval t x with
      | bool q =>
        rw [he] at h2
        cases q with
        | true => exact hx _ _ _ _ _ _ _ hv.1 h2
        | false => exact hx _ _ _ _ _ _ _ hv.2 h2
      | _ => rw [he] at h2; cases h2
    | block id body =>
      have h2 : blockT id body (codeT body) E (callFT E T (execT E T n)) (execT E T n) l base t H d = some r := h'
      unfold blockT at h2
      simp only [execF]
      cases hr : execT E T n l base body t H d with
      | none => rw [hr] at h2; cases h2
      | some z =>
        obtain ⟨e, t1, H1, d1⟩ := z
        rw [hr] at h2
        rw [hx l base body t H d _ hv hr]
        cases e with
        | normal => exact h2
        | exit k =>
          simp only [resK] at h2
          cases hb : Nat.beq k id with
          | true => rw [hb] at h2; simp only [hb]; exact h2
          | false => rw [hb] at h2; simp only [hb]; exact h2
        | ret => exact h2
    | loop body =>
      have h2 : loopT body (codeT body) E (callFT E T (execT E T n)) (execT E T n) l base t H d = some r := h'
      unfold loopT at h2
      simp only [execF]
      cases hr : execT E T n l base body t H d with
      | none => rw [hr] at h2; cases h2
      | some z =>
        obtain ⟨e, t1, H1, d1⟩ := z
        rw [hr] at h2
        rw [hx l base body t H d _ hv hr]
        cases e with
        | normal => exact hx _ _ _ _ _ _ _ hv h2
        | exit k => exact h2
        | ret => exact h2
    | scope body => exact hx _ _ _ _ _ _ _ hv h'
    | rangeFunc f p a b => cases h'
    | exit id => exact h'
    | label k => exact h'
    | goto k => cases h'
    | ret => exact h'
    | refuse w => cases h'

/-- The same word, from a table. -/
theorem callT_le {E : Env} {T : FT} (hT : TabOk E T) (n : Nat) {f : FuncId} {args : List Value} {H : Heap} {r : CallRes} (h : callT E T n f args H = some r) : call E n f args H = some r :=
  callFT_le hT (execT_le hT n) f args H r h

end
end Go.AM

namespace Go.AM
variable {E : Env}
open Go.ChangeMaps (setBlock)

/-- A part told by a run. -/
theorem runs_part (hE : EqsOk E) (hX : ExtOk E) {n nt base : Nat} {c : Code} {φ0 φ : Phi} {w0 w : World} {t : TT} {H : Heap} {d : List Nat} {a : Act} {K : ARes → Prop} {Q : Exit → Act → World → Prop}
    (h : Runs E n base c t H d K) (hok : codeOk E.P.globals.size nt c = true) (hnt : nt ≤ 1048576) (hc : ConfAt E.P.globals.size base nt φ0 w0 φ t H d a w)
    (hQ : ∀ r, K r → ∀ a' w', Conf E.P.globals.size base nt φ0 w0 r.t r.H r.dirty a' w' → Q r.e.ex a' w') : c.wp E.P Q a w := by
  obtain ⟨r, h1, h2⟩ := h
  exact ((exec_ok hE hX n _ _ _ _ _ _ h1).2 nt φ0 w0 Q a w hok hnt ⟨φ, hc⟩ (hQ r h2)).1

/-- An operation that is carried out by hand. -/
theorem op_hand {P : Program} {ops : Array Oper} {k : Nat} {o : Oper} {Q : Exit → Act → World → Prop} {K : Act → World → Prop} {a : Act} {w w' : World} {v' : Value} (hget : ops[k]? = some o) (hg : o.guard = none)
    (hrun : (execOp a.eval o).run P w = .ok (.value v') w') (hK : K (a.put o.dst v') w') : wpOp P ops Q k K a w := by
  unfold wpOp
  rw [hget]
  have : Region.wanted o (yielded ops a.tmps) = true := by unfold Region.wanted; rw [hg]
  simp only [this, if_true]
  left
  unfold Oper.wp
  rw [hrun]
  exact hK

theorem op_skip {P : Program} {ops : Array Oper} {k : Nat} {o : Oper} {Q : Exit → Act → World → Prop} {K : Act → World → Prop} {a : Act} {w w' : World} (hget : ops[k]? = some o) (hg : o.guard = none)
    (hrun : (execOp a.eval o).run P w = .ok .skip w') (hK : K (a.put o.dst undef) w') : wpOp P ops Q k K a w := by
  unfold wpOp
  rw [hget]
  have : Region.wanted o (yielded ops a.tmps) = true := by unfold Region.wanted; rw [hg]
  simp only [this, if_true]
  left
  unfold Oper.wp
  rw [hrun]
  exact hK

/-- A temporary is set, nothing else. -/
theorem ConfAt.setT {g base nt : Nat} {φ0 φ : Phi} {w0 w : World} {t : TT} {H : Heap} {d : List Nat} {a : Act} {dst : Option Tmp} {v v' : Value} (c : ConfAt g base nt φ0 w0 φ t H d a w) (hd : ∀ x : Nat, dst = some x → x < nt) (hb : nt ≤ 1048576) (hv : VR φ v v') :
    ConfAt g base nt φ0 w0 φ (t.put dst v) H d (a.put dst v') w :=
  ⟨c.toCore, c.tr.put c.size hd hb hv, by rw [put_size]; exact c.size, by rw [put_defers]; exact c.defers⟩

/-- The same configuration over another abstract heap. -/
theorem ConfAt.heapTo {g base nt : Nat} {φ0 φ : Phi} {w0 w : World} {t : TT} {H K : Heap} {d : List Nat} {a : Act} (c : ConfAt g base nt φ0 w0 φ t H d a w) (hr : Rel g φ K w) (hn : base ≤ K.n) : ConfAt g base nt φ0 w0 φ t K d a w :=
  ⟨⟨c.ext, hr, hn, c.frame, c.old, c.dlt, c.new⟩, c.tr, c.size, c.defers⟩

/-- A dead object's block is written, one that no other object has. -/
theorem ConfAt.poke {g base nt : Nat} {φ0 φ : Phi} {w0 w w1 : World} {t : TT} {H : Heap} {d : List Nat} {a : Act} {i : Nat} {L : Loc} {o : Obj} (c : ConfAt g base nt φ0 w0 φ t H d a w) (hφ : φ i = some L) (hd : H.get i = .dead)
    (hone : ∀ j M, φ j = some M → M.b = L.b → j = i) (hnew : w0.heap.size ≤ L.b) (hw : w1 = w ∨ w1 = w.drew) : ConfAt g base nt φ0 w0 φ t H d a (setBlock w1 L.b o) := by
  have hh : w1.heap = w.heap := by rcases hw with rfl | rfl <;> rfl
  have ho : w1.os = w.os := by rcases hw with rfl | rfl <;> rfl
  have hp : w1.output = w.output := by rcases hw with rfl | rfl <;> rfl
  have ht : w1.tape = w.tape := by rcases hw with rfl | rfl <;> rfl
  have hsz : (setBlock w1 L.b o).heap.size = w.heap.size := by simp [setBlock, hh]
  have hoth : ∀ b, b ≠ L.b → (setBlock w1 L.b o).heap[b]? = w.heap[b]? := fun b hb => by
    simp only [setBlock, hh]
    rw [Array.getElem?_setIfInBounds_ne (fun e => hb e.symm)]
  have r := c.rel
  refine ⟨⟨c.ext, ⟨r.wf, r.dom, fun j M hj => ?_, fun j M hj => by rw [hsz]; exact r.blk j M hj, r.inj, r.glob⟩, c.lob, ⟨by rw [hsz]; exact c.frame.size, ho.trans c.frame.os, hp.trans c.frame.output, ht.trans c.frame.tape, fun b hb hw => ?_⟩, c.old, c.dlt, c.new⟩, c.tr, c.size, c.defers⟩
  · by_cases hji : j = i
    · subst hji
      rw [hd]
      trivial
    · exact (r.obj j M hj).block (hoth _ fun e => hji (hone j M hj e))
  · rw [hoth b (by omega)]
    exact c.frame.heap b hb hw

theorem filter_lt {α : Type} {p q : α → Bool} : ∀ {l : List α}, (∀ x, x ∈ l → q x = true → p x = true) → ∀ {y : α}, y ∈ l → p y = true → q y = false → (l.filter q).length < (l.filter p).length
  | [], _, _, hy, _, _ => by cases hy
  | x :: l, h, y, hy, hp, hq => by
    have hle : ∀ (l : List α), (∀ x, x ∈ l → q x = true → p x = true) → (l.filter q).length ≤ (l.filter p).length := by
      intro l
      induction l with
      | nil => intro _; simp
      | cons z l ih =>
        intro hz
        have hl := ih fun x hx => hz x (List.mem_cons_of_mem _ hx)
        simp only [List.filter_cons]
        cases hqz : q z with
        | false => cases hpz : p z <;> simp <;> omega
        | true => simp [hz z (by simp) hqz]; omega
    have htl := fun x hx => h x (List.mem_cons_of_mem _ hx)
    simp only [List.filter_cons]
    rcases List.mem_cons.1 hy with rfl | hy
    · rw [hp, hq]
      have := hle l htl
      simp
      omega
    · have := filter_lt htl hy hp hq
      cases hqx : q x with
      | false => cases hpx : p x <;> simp <;> omega
      | true => simp [h x (by simp) hqx]; omega

end Go.AM
