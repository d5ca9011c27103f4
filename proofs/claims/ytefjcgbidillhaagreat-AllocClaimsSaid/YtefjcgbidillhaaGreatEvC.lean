/- The abstract evaluator: operations, regions, code, functions. Definitions alone. -/
import Derived.Test.YtefjcgbidillhaaGreatEvB
import Derived.Still
namespace Go.Proofs.YtefjcgbidillhaaGreat
open Go
namespace Ev
set_option linter.unusedVariables false

inductive Ex where
  | normal
  | exit (id : Nat)
  | ret

/-- What a call comes to: whether it is so (a Bool that need not be reckoned yet), and the value. -/
abbrev CallT := FuncId → List A → Mem → Option (Bool × A)

/-- What is known of the program's types and functions. 'gam': contracts by values; 'own1': functions that hand back a slice of their own; 'eat': functions that turn an owned slice; 'sum': what loops come to. -/
structure Env where
  tab : TypeId → Option TI
  elt : TypeId → Option Ty
  zero : TypeId → Option (List C)
  boolT : TypeId → Bool
  strT : TypeId → Bool
  intT : TypeId → Option IntKind
  fd : FuncId → Option Func
  gam : FuncId → Option ((FuncId → List A → Option (Bool × A)) → Mem → List A → Option (Bool × A))
  own1 : FuncId → Option (List A → Option (Bool × Own))
  eat : FuncId → Option (Own → (FuncId → List A → Option (Bool × A)) → List A → Option (Bool × Own))
  sum : FuncId → Nat → Option (Nat → St → (Ex → St → Option A) → Option A)
  F : Nat
  ann : List (FuncId × Nat × List Nat × List Nat × List Nat)

def Ty.zero : (t : Ty) → t.D
  | .str => ByteArray.empty | .int => 0 | .bool => false | .byte => 0
  | .key => ⟨ByteArray.empty, ByteArray.empty, ByteArray.empty, 0⟩ | .unit => ⟨ByteArray.empty, 0⟩
  | .item => ⟨ByteArray.empty, List.replicate 4 ⟨ByteArray.empty, 0⟩, 0, 0, false, false, false⟩
  | .lot => ⟨ByteArray.empty, ByteArray.empty, 0⟩ | .zone => ⟨ByteArray.empty, ByteArray.empty⟩
  | .bin => ⟨ByteArray.empty, ByteArray.empty, 0, 0, 0, 0, 0, false⟩
  | .quant => ⟨⟨ByteArray.empty, ByteArray.empty, ByteArray.empty, 0⟩, 0, 0⟩ | .rule => ⟨ByteArray.empty, ByteArray.empty, 0⟩
  | .line => ⟨ByteArray.empty, 0, 0, 0, 0, 0⟩
  | .notice => ⟨ByteArray.empty, ByteArray.empty, List.replicate 8 ⟨ByteArray.empty, 0, 0, 0, 0, 0⟩, false⟩
  | .order => ⟨ByteArray.empty, ByteArray.empty, List.replicate 8 ⟨ByteArray.empty, 0, 0, 0, 0, 0⟩⟩
  | .claim => ⟨ByteArray.empty, 0, ⟨ByteArray.empty, ByteArray.empty, ByteArray.empty, 0⟩, 0, 0⟩
  | .task => ⟨0, 0, ByteArray.empty, 0, ⟨ByteArray.empty, ByteArray.empty, ByteArray.empty, 0⟩, ByteArray.empty, 0, ByteArray.empty⟩
  | .parcel => ⟨ByteArray.empty, ByteArray.empty⟩ | .sent => ⟨ByteArray.empty, ByteArray.empty, ByteArray.empty, 0, 0⟩
  | .counted => ⟨⟨ByteArray.empty, ByteArray.empty, ByteArray.empty, 0⟩, 0⟩ | .total => ⟨ByteArray.empty, ByteArray.empty, 0, 0, 0, 0⟩
  | .take => ⟨⟨ByteArray.empty, ByteArray.empty, ByteArray.empty, 0⟩, 0⟩
  | .entry => ⟨⟨ByteArray.empty, ByteArray.empty, ByteArray.empty, 0⟩, ByteArray.empty, 0, 0, 0⟩

/-! ### who names whom -/
def C.noBox (id : Nat) : C → Bool
  | .ptr b _ => !(Nat.beq b id)
  | .arp b _ _ _ _ _ => !(Nat.beq b id)
  | .bsl b _ _ _ _ => !(Nat.beq b id)
  | .fn _ cap => cap.all fun p => !(Nat.beq p.1 id)
  | _ => true
def C.noOwn (id : Nat) : C → Bool
  | .own i => !(Nat.beq i id)
  | .pre i _ => !(Nat.beq i id)
  | .ownp i _ _ => !(Nat.beq i id)
  | _ => true
def A.all (p : C → Bool) : A → Bool
  | .s c => p c
  | .g l => l.all p
  | .t l => l.all fun x => x.2.all p
  | .dead => true
def St.all (p : C → Bool) (S : St) : Bool := S.tmps.all (·.all p) && S.mem.boxes.all fun o => match o with
  | some l => l.all p
  | none => true
def getB (m : Mem) (b : Nat) : Option (List C) := (m.boxes[b]?).join
def getO (m : Mem) (b : Nat) : Option Own := (m.owns[b]?).join
def setB (m : Mem) (b : Nat) (l : List C) : Mem := { m with boxes := m.boxes.set b (some l) }
def setO (m : Mem) (b : Nat) (o : Own) : Mem := { m with owns := m.owns.set b (some o) }

def A.map (f : C → C) : A → A
  | .s c => .s (f c)
  | .g l => .g (l.map f)
  | .t l => .t (l.map fun x => (x.1, x.2.map f))
  | .dead => .dead
/-- An owned slice that is turned: what named it is dead. -/
def C.killOwn (id : Nat) : C → C
  | .own i => if Nat.beq i id then .dead else .own i
  | .pre i n => if Nat.beq i id then .dead else .pre i n
  | .ownp i a b => if Nat.beq i id then .dead else .ownp i a b
  | c => c
def killO (id : Nat) (S : St) : St := ⟨S.tmps.map (A.map (C.killOwn id)), ⟨S.mem.boxes.map (Option.map (List.map (C.killOwn id))), S.mem.owns⟩⟩
/-- An owned slice that is let go: a list from here on. -/
def C.freezeOwn (id : Nat) (o : Own) : C → C
  | .own i => if Nat.beq i id then .list o.t o.l [] else .own i
  | .pre i n => if Nat.beq i id then .list o.t (o.l.take n) (o.l.drop n) else .pre i n
  | .ownp i a b => if Nat.beq i id then .dead else .ownp i a b
  | c => c
def freezeO (id : Nat) (o : Own) (S : St) : St := ⟨S.tmps.map (A.map (C.freezeOwn id o)), ⟨S.mem.boxes.map (Option.map (List.map (C.freezeOwn id o))), S.mem.owns.set id none⟩⟩
def C.ownId : C → Option Nat
  | .own i => some i
  | .pre i _ => some i
  | _ => none
def A.cells : A → List C
  | .s c => [c]
  | .g l => l
  | .t l => l.flatMap (·.2)
  | .dead => []
/-- All owned slices that some values name are let go. -/
def freezeAll : List C → St → Option St
  | [], S => some S
  | c :: r, S => match c.ownId with
    | none => freezeAll r S
    | some id => match getO S.mem id with
      | some o => freezeAll r (freezeO id o S)
      | none => freezeAll r S

/-! ### values -/
def evalA (S : St) : Operand → A
  | .tmp t => S.tmps.getD t .dead
  | .const (.slice none 0 0) => .s .nils
  | .const (.agg _) => .dead
  | .const (.tuple _) => .dead
  | .const v => .s (.v v)
  | .func f => .s (.fn f [])
  | .global _ => .dead

/-- The kind of a type: does a value of it stand as one cell? -/
def valOf : TI → List C → Option A
  | .st _ _, l => some (.g l)
  | .ar _ _ _, l => some (.g l)
  | _, l => (oneC l).map .s

def A.flat : A → Option (List C)
  | .s c => some [c]
  | .g l => some l
  | _ => none

def C.len : C → Bool
  | .el _ _ | .arr _ _ _ => false
  | _ => true

def pureVal : Sem Value → Option Value
  | .pure v => some v
  | _ => none

def big : Nat := 1000000

def binA (E : Env) (op : BinOp) (T : TypeId) (x y : A) : Option A :=
  match x, y with
  | .s (.v (.string a)), .s (.v (.string b)) => match op with
    | .add => if Nat.ble (a.size + b.size) 1000000000000000 then some (.s (.v (.string (a ++ b)))) else none
    | _ => match pureVal (Op.stringOp op a b) with
      | some (.bool r) => some (.s (cb r))
      | _ => none
  | .s (.v (.int k a)), .s (.v (.int k' b)) => match pureVal (binOp op T (.int k a) (.int k' b)) with
    | some (.int k r) => some (.s (.v (.int k r)))
    | some (.bool r) => some (.s (cb r))
    | _ => none
  | .s (.v (.bool a)), .s (.v (.bool b)) => match E.boolT T, op with
    | true, .eql => some (.s (cb (a == b)))
    | true, .neq => some (.s (cb (!(a == b))))
    | _, _ => none
  | .g a, .g b => match E.elt T with
    | some t => match decC t a, decC t b with
      | some x, some y => match op with
        | .eql => some (.s (cb (t.eqb x y)))
        | .neq => some (.s (cb (!(t.eqb x y))))
        | _ => none
      | _, _ => none
    | none => none
  | _, _ => none

/-- Fields' places. -/
def fieldAt (E : Env) (T : TypeId) (f : Nat) : Option (Nat × Nat) :=
  match E.tab T with
  | some (.st _ fs) => match fs[f]? with
    | some (o, ft) => match E.tab ft with
      | some ti => if Nat.beq ti.size 0 then none else some (o, ti.size)
      | none => none
    | none => none
  | _ => none

def moveP (o : Nat) : C → Option C
  | .ptr b p => some (.ptr b (p + o))
  | .elp t x p => some (.elp t x (p + o))
  | .arp b p t k i q => some (.arp b p t k i (q + o))
  | .ownp i a b => some (.ownp i a (b + o))
  | _ => none

def arrAt (m : Mem) (b o : Nat) (t : Ty) : Option (Nat × List t.D) :=
  match getB m b with
  | some l => match dropC deep o l with
    | some (.arr t' n x :: _) => if h : t' = t then some (n, h ▸ x) else none
    | _ => none
  | none => none

/-- A list's thing at a place. -/
def rd (t : Ty) (l : List t.D) (i : Nat) : t.D := l.getD i t.zero
/-- A string's byte at a place. -/
def rb (s : Str) (i : Nat) : Int := ((s[i]?.getD 0).toNat : Int)

def loadP (m : Mem) (n : Nat) : C → Option (List C)
  | .ptr b o => match getB m b with
    | some l => readC o n l
    | none => none
  | .elp t x o => readC o n [.el t x]
  | .arp b o t k i q => match arrAt m b o t with
    | some (k', l) => match Nat.beq k' k with
      | true => readC q n [.el t (rd t l i)]
      | false => none
    | none => none
  | .ownp id i q => match getO m id with
    | some o => readC q n [.el o.t (rd o.t o.l i)]
    | none => none
  | _ => none

/-- A thing of which some cells are written. -/
def newEl (t : Ty) (e : t.D) (n q : Nat) (new : List C) : Option t.D :=
  match Nat.beq n t.size && Nat.beq q 0 with
  | true => decC t new
  | false => match Nat.beq n 1, new with
    | true, [.v u] => setC t e q u
    | _, _ => none

def storeP (lo : Nat) (m : Mem) (n : Nat) (new : List C) : C → Option Mem
  | .ptr b o => if Nat.ble lo b then match getB m b with
      | some l => (writeC o n new l).map (setB m b)
      | none => none
    else none
  | .arp b o t k' i q => if Nat.ble lo b then match getB m b, arrAt m b o t with
      | some l, some (k, x) => match Nat.beq k k' with
        | true => match newEl t (rd t x i) n q new with
          | some e' => (writeC o (k * t.size) [.arr t k (x.set i e')] l).map (setB m b)
          | none => none
        | false => none
      | _, _ => none
    else none
  | .ownp id i q => if Nat.ble lo id then match getO m id with
      | some o => match newEl o.t (rd o.t o.l i) n q new with
          | some e' => some (setO m id ⟨o.e, o.t, o.l.set i e'⟩)
          | none => none
      | none => none
    else none
  | _ => none

def natOf : A → Option Int
  | .s (.v (.int _ n)) => some n
  | _ => none

def optI (ρ : Operand → A) : Option Operand → Option (Option Int)
  | none => some none
  | some x => match natOf (ρ x) with
    | some n => some (some n)
    | none => none

def indexP (E : Env) (m : Mem) (T : TypeId) (x : C) (i : Int) : Option C :=
  match E.tab T with
  | some (.sl _ t') => match x with
    | .list t l _ => if Nat.beq t.size t'.size then some (.elp t (rd t l i.toNat) 0) else none
    | .own id => match getO m id with
      | some o => if Nat.beq o.t.size t'.size then some (.ownp id i.toNat 0) else none
      | none => none
    | _ => none
  | some (.ar n _ t) => match x with
      | .ptr b o => match arrAt m b o t with
        | some (k, _) => if Nat.beq k n then some (.arp b o t n i.toNat 0) else none
        | none => none
      | .elp t' e o => match dropC deep o [.el t' e] with
        | some (.arr t2 k l :: _) => if Nat.beq t2.size t.size && Nat.beq k n then some (.elp t2 (rd t2 l i.toNat) 0) else none
        | _ => none
      | _ => none
  | _ => none
/-- Whether the place is there. -/
def indexG (E : Env) (m : Mem) (T : TypeId) (x : C) (i : Int) : Bool :=
  match E.tab T with
  | some (.sl _ _) => match x with
    | .list _ l _ => decide (0 ≤ i ∧ i < (l.length : Int))
    | .own id => match getO m id with
      | some o => decide (0 ≤ i ∧ i < (o.l.length : Int))
      | none => false
    | _ => false
  | some (.ar n _ _) => decide (0 ≤ i ∧ i < (n : Int))
  | _ => false

/-- A slice of a slice. -/
def sliceC (m : Mem) (sz : Nat) (lo hi : Option Int) : C → Option C
  | .list t l bs =>
    let h := hi.getD l.length
    let o := lo.getD 0
    if t.size = sz ∧ (0 : Int) ≤ h ∧ h ≤ ((l.length + bs.length : Nat) : Int) ∧ 0 ≤ o ∧ o ≤ h then some (.list t (((l ++ bs).take h.toNat).drop o.toNat) ((l ++ bs).drop h.toNat)) else none
  | .nils => match hi.getD 0, lo.getD 0 with
    | 0, 0 => some .nils
    | _, _ => none
  | .own id => match getO m id, lo with
    | some o, none => match hi with
      | some h => if (0 : Int) ≤ h ∧ h ≤ o.l.length then some (.pre id h.toNat) else none
      | none => some (.own id)
    | _, _ => none
  | _ => none

def sliceA (E : Env) (m : Mem) (T : TypeId) (x : A) (lo hi : Option Int) : Option A :=
  match x with
  | .s (.v (.string s)) =>
    let h := hi.getD s.size
    let o := lo.getD 0
    if E.strT T = true ∧ (0 : Int) ≤ h ∧ h ≤ (s.size : Int) ∧ 0 ≤ o ∧ o ≤ h then some (.s (.v (.string (s.extract o.toNat h.toNat)))) else none
  | .s c => match E.tab T with
    | some (.sl _ t) => (sliceC m t.size lo hi c).map .s
    | _ => none
  | _ => none

/-- The same, what has yet to be so left aside ('sliceAG'). -/
def sliceV (m : Mem) (lo hi : Option Int) : C → Option C
  | .list t l bs => match lo, hi with
    | none, none => some (.list t l bs)
    | none, some h => some (.list t ((l ++ bs).take h.toNat) ((l ++ bs).drop h.toNat))
    | some o, none => some (.list t (l.drop o.toNat) bs)
    | some o, some h => some (.list t (((l ++ bs).take h.toNat).drop o.toNat) ((l ++ bs).drop h.toNat))
  | .nils => match hi.getD 0, lo.getD 0 with
    | 0, 0 => some .nils
    | _, _ => none
  | .own id => match lo, hi with
    | none, some h => some (.pre id h.toNat)
    | none, none => some (.own id)
    | _, _ => none
  | _ => none
def sliceG (m : Mem) (sz : Nat) (lo hi : Option Int) : C → Bool
  | .list t l bs => Nat.beq t.size sz && match lo, hi with
    | none, none => true
    | none, some h => decide ((0 : Int) ≤ h) && decide (h ≤ ((l.length + bs.length : Nat) : Int))
    | some o, none => decide ((0 : Int) ≤ o) && decide (o ≤ (l.length : Int))
    | some o, some h => decide ((0 : Int) ≤ o) && (decide (o ≤ h) && decide (h ≤ ((l.length + bs.length : Nat) : Int)))
  | .own id => match getO m id with
    | some o => match hi with
      | some h => decide ((0 : Int) ≤ h) && decide (h ≤ (o.l.length : Int))
      | none => true
    | none => false
  | _ => true
def sliceAV (E : Env) (m : Mem) (T : TypeId) (x : A) (lo hi : Option Int) : Option A :=
  match x with
  | .s (.v (.string s)) => match lo, hi with
    | none, none => some (.s (.v (.string (s.extract 0 s.size))))
    | some o, none => some (.s (.v (.string (s.extract o.toNat s.size))))
    | none, some h => some (.s (.v (.string (s.extract 0 h.toNat))))
    | some o, some h => some (.s (.v (.string (s.extract o.toNat h.toNat))))
  | .s c => (sliceV m lo hi c).map .s
  | _ => none
def sliceAG (E : Env) (m : Mem) (T : TypeId) (x : A) (lo hi : Option Int) : Bool :=
  match x with
  | .s (.v (.string s)) => E.strT T && match lo, hi with
    | none, none => true
    | some o, none => decide ((0 : Int) ≤ o) && decide (o ≤ (s.size : Int))
    | none, some h => decide ((0 : Int) ≤ h) && decide (h ≤ (s.size : Int))
    | some o, some h => decide ((0 : Int) ≤ o) && (decide (o ≤ h) && decide (h ≤ (s.size : Int)))
  | .s c => match E.tab T with
    | some (.sl _ t) => sliceG m t.size lo hi c
    | _ => false
  | _ => true

def buildA (E : Env) : List C → List (Nat × List C) → (Nat → Option (Nat × Nat)) → Option (List C)
  | acc, [], _ => some acc
  | acc, (i, x) :: r, pl => match pl i with
    | some (o, n) => match writeC o n x acc with
      | some acc => buildA E acc r pl
      | none => none
    | none => none

def buildL (t : Ty) : List t.D → List (Nat × List C) → Option (List t.D)
  | acc, [] => some acc
  | acc, (i, x) :: r => match decC t x with
    | some e => if Nat.ble (i + 1) acc.length then buildL t (acc.set i e) r else none
    | none => none

def partsA (ρ : Operand → A) : List (Nat × Operand) → Option (List (Nat × List C))
  | [] => some []
  | (i, x) :: r => match (ρ x).flat, partsA ρ r with
    | some l, some r => some ((i, l) :: r)
    | _, _ => none

def listOf (m : Mem) : C → Option (Σ t : Ty, List t.D)
  | .list t l _ => some ⟨t, l⟩
  | .own id => match getO m id with
    | some o => some ⟨o.t, o.l⟩
    | none => none
  | .pre id n => match getO m id with
    | some o => some ⟨o.t, o.l.take n⟩
    | none => none
  | _ => none

/-- A value as a callee reads it: owned slices are lists to it. -/
def viewC (m : Mem) : C → C
  | .own id => match getO m id with
    | some o => .list o.t o.l []
    | none => .dead
  | .pre id n => match getO m id with
    | some o => .list o.t (o.l.take n) (o.l.drop n)
    | none => .dead
  | .ownp _ _ _ => .dead
  | c => c

def capsOf : List A → Option (List (Nat × Nat))
  | [] => some []
  | .s (.ptr b o) :: r => (capsOf r).map ((b, o) :: ·)
  | _ :: _ => none

def noRef : C → Bool
  | .v _ | .el _ _ | .arr _ _ _ | .list _ _ _ | .nils | .elp _ _ _ | .fn _ [] => true
  | _ => false
def C.noOwns : C → Bool
  | .own _ | .pre _ _ | .ownp _ _ _ => false
  | _ => true
def blank (m : Mem) : Mem := ⟨m.boxes.map fun _ => none, m.owns.map fun _ => none⟩
def capA (cap : List (Nat × Nat)) : List A := cap.map fun p => .s (.ptr p.1 p.2)
/-- Boxes without the empty places at the end. -/
def trimB : List (Option (List C)) → List (Option (List C))
  | [] => []
  | x :: r => match x, trimB r with
    | none, [] => []
    | x, r => x :: r
/-- What of memory a call sees. -/
def memFor (l : List A) (m : Mem) : Mem := if l.all (·.all noRef) then ⟨[], []⟩ else ⟨trimB m.boxes, []⟩

/-- An array in a box that is sliced from its begin on. -/
def arrSl (E : Env) (T : TypeId) : A → Option (Nat × Nat × Ty × Nat)
  | .s (.ptr b o) => match E.tab T with
    | some (.ar n _ t) => some (b, o, t, n)
    | _ => none
  | _ => none
/-- An array that is read at a place: its things are structs. -/
def arrIx (E : Env) (T : TypeId) : A → Option (Nat × Σ t : Ty, List t.D)
  | .g [.arr t k l] => match E.tab T with
    | some (.ar n e t') => match E.tab e with
      | some (.st _ _) => if Nat.beq t.size t'.size && Nat.beq k n then some (n, ⟨t, l⟩) else none
      | _ => none
    | _ => none
  | _ => none

/-- What an operation that changes nothing comes to: it hangs on its operands and on memory alone. -/
def valA (E : Env) (call : CallT) (m : Mem) (ρ : Operand → A) (o : Oper) : Option A :=
  match o.op with
  | .move x => some (ρ x)
  | .assign x => some (ρ x)
  | .pick c a b => match ρ c with
    | .s (.v (.bool r)) => match ρ a, ρ b with
      | .s (.v (.bool x)), .s (.v (.bool y)) => some (.s (cb (bif r then x else y)))
      | x, y => match r with
        | true => some x
        | false => some y
    | _ => none
  | .load T a => match E.tab T, ρ a with
    | some ti, .s p => match loadP m ti.size p with
      | some l => valOf ti l
      | none => none
    | _, _ => none
  | .fieldAddr T x f => match ρ x, fieldAt E T f with
    | .s p, some (o, _) => (moveP o p).map .s
    | _, _ => none
  | .indexAddr T x i => match ρ x, natOf (ρ i) with
    | .s p, some i => (indexP E m T p i).map .s
    | _, _ => none
  | .index T x i => match arrIx E T (ρ x) with
    | some (_, ⟨t, l⟩) => match natOf (ρ i) with
      | some i => some (.g [.el t (rd t l i.toNat)])
      | none => none
    | none => match E.strT T, ρ x, natOf (ρ i) with
      | true, .s (.v (.string s)), some i => some (.s (.v (.int .u8 (rb s i.toNat))))
      | _, _, _ => none
  | .extract x i => match ρ x with
    | .t l => match l[i]? with
      | some (true, l) => some (.g l)
      | some (false, [c]) => some (.s c)
      | _ => none
    | _ => none
  | .build T ps => match E.tab T, E.zero T, partsA ρ ps.toList with
    | some (.st _ _), some z, some l => (buildA E z l (fieldAt E T)).map .g
    | some (.ar n _ t), some _, some l => (buildL t (List.replicate n t.zero) l).map fun l => .g [.arr t n l]
    | _, _, _ => none
  | .buildSlice T n ps => match E.tab T, partsA ρ ps.toList with
    | some (.sl _ t), some l => if Nat.ble n 1000 then (buildL t (List.replicate n t.zero) l).map fun l => .s (.list t l []) else none
    | _, _ => none
  | .slice T x l h none => match arrSl E T (ρ x) with
    | some (b, o, t, n) => match l, optI ρ h with
      | none, some h => some (.s (.bsl b o t n (h.getD n).toNat))
      | _, _ => none
    | none => match optI ρ l, optI ρ h with
      | some l, some h => sliceAV E m T (ρ x) l h
      | _, _ => none
  | .makeFunc (.func f) first captured => match first.toList, capsOf (captured.toList.map ρ) with
    | [], some l => some (.s (.fn f l))
    | _, _ => none
  | .nilCheck x => match ρ x with
    | .s p => (moveP 0 p).map .s
    | _ => none
  | .binOp op T x y _ => binA E op T (ρ x) (ρ y)
  | .convert S T x => match E.intT S, E.intT T, ρ x with
    | some _, some k, .s (.v (.int _ n)) => some (.s (.v (.int k (k.wrap n))))
    | _, _, _ => none
  | .unOp op _ x => match ρ x with
    | .s (.v v) => match pureVal (Op.unary op v) with
      | some (.int k n) => some (.s (.v (.int k n)))
      | some (.bool b) => some (.s (cb b))
      | _ => none
    | _ => none
  | .call c => match c.callee with
    | .builtin .len => match c.argTypes.toList, c.args.toList.map ρ with
      | [T], [.s x] => match x with
        | .v (.string s) => if E.strT T then some (.s (ci s.size)) else none
        | .nils => match E.tab T with
          | some (.sl _ _) => some (.s (ci 0))
          | _ => none
        | x => match E.tab T, listOf m x with
          | some (.sl _ _), some ⟨_, l⟩ => some (.s (ci l.length))
          | _, _ => none
      | [T], [.g [.arr _ n _]] => match E.tab T with
        | some (.ar n' _ _) => if n = n' then some (.s (ci n)) else none
        | _ => none
      | _, _ => none
    | .builtin .max => match c.args.toList.map ρ with
      | [.s (.v (.int k a)), .s (.v (.int _ b))] => some (.s (.v (.int k (if b > a then b else a))))
      | _ => none
    | .builtin .min => match c.args.toList.map ρ with
      | [.s (.v (.int k a)), .s (.v (.int _ b))] => some (.s (.v (.int k (if b < a then b else a))))
      | _ => none
    | .value f => match ρ f with
      | .s (.fn f cap) =>
        let l := c.args.toList.map ρ
        if l.all (·.all C.noOwns) then (match E.own1 f, E.eat f with
          | none, none => (call f (l ++ capA cap) (memFor (l ++ capA cap) m)).map (·.2)
          | _, _ => none) else none
      | _ => none
    | _ => none
  | _ => none

/-- What has yet to be so for that. -/
def guardA (E : Env) (call : CallT) (m : Mem) (ρ : Operand → A) (o : Oper) : Bool :=
  match o.op with
  | .call c => match c.callee with
    | .value f => match ρ f with
      | .s (.fn f cap) =>
        let l := c.args.toList.map ρ
        match call f (l ++ capA cap) (memFor (l ++ capA cap) m) with
        | some (b, _) => b
        | none => true
      | _ => true
    | _ => true
  | .slice T x l h none => match arrSl E T (ρ x) with
    | some (_, _, _, n) => match optI ρ h with
      | some h => decide (0 ≤ h.getD n ∧ h.getD n ≤ (n : Int))
      | none => true
    | none => match optI ρ l, optI ρ h with
      | some l, some h => sliceAG E m T (ρ x) l h
      | _, _ => true
  | .indexAddr T x i => match ρ x, natOf (ρ i) with
    | .s p, some i => indexG E m T p i
    | _, _ => true
  | .index T x i => match arrIx E T (ρ x) with
    | some (n, _) => match natOf (ρ i) with
      | some i => decide (0 ≤ i ∧ i < (n : Int))
      | none => true
    | none => match ρ x, natOf (ρ i) with
      | .s (.v (.string s)), some i => decide (0 ≤ i ∧ i < (s.size : Int))
      | _, _ => true
  | _ => true

/-- What an operation that is carried out comes to: its value, and the state (its 'dst' not yet written). 'id': the number of what it makes. -/
def opA (E : Env) (call : CallT) (lo id : Nat) (o : Oper) (S : St) : Option (Bool × (A × St)) :=
  let ρ := evalA S
  let m := S.mem
  match o.op with
  | .assign x => match ρ x with
    | .s .nils => match E.tab o.type with
      | some (.sl e t) => if S.all (·.noOwn id) && Nat.ble lo id && Nat.ble (id + 1) m.owns.length && (getO m id).isNone then some (true, (.s (.own id), { S with mem := setO m id ⟨e, t, []⟩ })) else none
      | _ => none
    | a => some (true, (a, S))
  | .store T a x => match E.tab T, ρ a, (ρ x).flat with
    | some ti, .s p, some l => (storeP lo m ti.size l p).map fun m => (true, (.dead, { S with mem := m }))
    | _, _, _ => none
  | .box T x => match E.tab T, (ρ x).flat with
    | some _, some l => if S.all (·.noBox id) && Nat.ble lo id && Nat.ble (id + 1) m.boxes.length then some (true, (.s (.ptr id 0), { S with mem := setB m id l })) else none
    | _, _ => none
  | .alloc T => match E.tab T, E.zero T with
    | some (.sl e t), _ => if S.all (·.noBox id) && S.all (·.noOwn id) && Nat.ble lo id && Nat.ble (id + 1) m.boxes.length && Nat.ble (id + 1) m.owns.length && (getO m id).isNone then some (true, (.s (.ptr id 0), { S with mem := setO (setB m id [.own id]) id ⟨e, t, []⟩ })) else none
    | some _, some l => if S.all (·.noBox id) && Nat.ble lo id && Nat.ble (id + 1) m.boxes.length then some (true, (.s (.ptr id 0), { S with mem := setB m id l })) else none
    | _, _ => none
  | .makeSlice T n c => match E.tab T, natOf (ρ n), natOf (ρ c) with
    | some (.sl e t), some n, some c => if S.all (·.noOwn id) && Nat.ble lo id && Nat.ble (id + 1) m.owns.length && (getO m id).isNone then some (decide ((0 : Int) ≤ n) && (decide (n ≤ c) && decide (c ≤ 1000000)), (.s (.own id), { S with mem := setO m id ⟨e, t, List.replicate n.toNat t.zero⟩ })) else none
    | _, _, _ => none
  | .call c => match c.callee with
    | .builtin .append => match c.args.toList.map ρ, c.argTypes.toList with
      | [.s (.own i), .s x], [T, T'] => match getO m i, E.tab T with
        | some o, some (.sl e t) => if Nat.beq T T' && Nat.beq o.e e && Nat.ble lo i && Nat.beq t.size o.t.size then
            match (match x with
              | .nils => some []
              | x => match listOf m x with
                | some ⟨t', l⟩ => if h : t' = o.t then some (h ▸ l) else none
                | none => none : Option (List o.t.D)) with
            | some l => some (Nat.ble (o.l.length + l.length) big, (.s (.own i), { killO i S with mem := setO (killO i S).mem i ⟨o.e, o.t, o.l ++ l⟩ }))
            | none => none
          else none
        | _, _ => none
      | _, _ => none
    | .value cf => match ρ cf with
      | .s (.fn f cap) => match E.eat f with
        | some g => match c.args.toList with
          | x :: r => match freezeAll ((r.map ρ).flatMap A.cells) S with
            | some S' => match evalA S' x with
              | .s (.own i) => match getO S'.mem i with
                | some o =>
                  let l := r.map (evalA S')
                  if l.all (·.all C.noOwns) && Nat.ble lo i && cap.isEmpty then match g o (fun f l => call f l (memFor l S'.mem)) l with
                    | some (b, o') => some (b, (.s (.own i), { killO i S' with mem := setO (killO i S').mem i o' }))
                    | none => none
                  else none
                | none => none
              | _ => none
            | none => none
          | [] => none
        | none => match freezeAll ((c.args.toList.map ρ).flatMap A.cells) S with
          | none => none
          | some S' =>
            let l := c.args.toList.map (evalA S')
            if l.all (·.all C.noOwns) then match E.own1 f with
              | some g => match g l with
                | some (b, o) => if S'.all (·.noOwn id) && Nat.ble lo id && Nat.ble (id + 1) S'.mem.owns.length && cap.isEmpty && (getO S'.mem id).isNone then some (b, (.s (.own id), { S' with mem := setO S'.mem id o })) else none
                | none => none
              | none => (call f (l ++ capA cap) (memFor (l ++ capA cap) S'.mem)).map fun x => (x.1, (x.2, S'))
            else none
      | _ => none
    | _ => (valA E call m ρ o).map fun x => (guardA E call m ρ o, (x, S))
  | _ => (valA E call m ρ o).map fun x => (guardA E call m ρ o, (x, S))

section
variable (E : Env) (call : CallT) (fb : Nat)

def putA (dst : Option Tmp) (a : A) (S : St) : St :=
  match dst with
  | some d => { S with tmps := S.tmps.set d a }
  | none => S

def stepA (o : Oper) (S : St) : Option (Bool × St) :=
  (opA E call fb (fb + o.dst.getD 0) o S).map fun x => (x.1, putA o.dst x.2.1 x.2.2)

/-- A list's spine is brought out ahead of going on (so that the kernel does it once). -/
def forceL {α R : Type} : List α → (List α → R) → R
  | [], k => k []
  | a :: r, k => forceL r fun r => k (a :: r)
def forceT {R : Type} (S : St) (k : St → R) : R :=
  match S with
  | ⟨t, m⟩ => match m with
    | ⟨b, o⟩ => forceL t fun t => forceL b fun b => forceL o fun o => k ⟨t, ⟨b, o⟩⟩
theorem forceL_eq {α R : Type} : ∀ (l : List α) (k : List α → R), forceL l k = k l
  | [], k => rfl
  | a :: r, k => forceL_eq r _
theorem forceT_eq {R : Type} (S : St) (k : St → R) : forceT S k = k S := by
  obtain ⟨t, b, o⟩ := S
  simp only [forceT, forceL_eq]

/-- The operations of a region, one by one, 'step' carrying out one. -/
def evG {R : Type} (step : Oper → St → Option (Bool × St)) (ops : Array Oper) : List Oper → St → (St → Option R) → Option R
  | [], S, k => k S
  | o :: r, S, k => match o.guard with
    | none => match step o S with
      | some (b, S) => match b with
        | true => forceT S (fun S => evG step ops r S k)
        | false => none
      | none => none
    | some (j, want) => match (ops[j]?).bind (·.dst) with
      | none => none
      | some t => match S.tmps[t]? with
        | some (.s (.v (.bool b))) => match b with
          | true =>
            let S := putA (some t) (.s (cb true)) S
            if want then match step o S with
              | some (b, S) => match b with
                | true => forceT S (fun S => evG step ops r S k)
                | false => none
              | none => none
            else forceT (putA o.dst .dead S) (fun S => evG step ops r S k)
          | false =>
            let S := putA (some t) (.s (cb false)) S
            if want then forceT (putA o.dst .dead S) (fun S => evG step ops r S k)
            else match step o S with
              | some (b, S) => match b with
                | true => forceT S (fun S => evG step ops r S k)
                | false => none
              | none => none
        | _ => none
end

def keepT (k : List Nat) : Nat → List A → List A
  | _, [] => []
  | i, a :: r => (if k.elem i then a else .dead) :: keepT k (i + 1) r
def keepM {α : Type} (k : List Nat) : Nat → List (Option α) → List (Option α)
  | _, [] => []
  | i, a :: r => (if k.elem i then a else none) :: keepM k (i + 1) r

/-- An operation in a region that draws its order: its value, and what it does to memory. 'm0': memory when the region began. -/
def effD (E : Env) (call : CallT) (lo id : Nat) (m0 : Mem) (ρ : Operand → A) (o : Oper) : Option (A × Option (Mem → Option Mem)) :=
  match o.op with
  | .store T a x => match E.tab T, ρ a, (ρ x).flat with
    | some ti, .s p, some l => some (.dead, some fun m => storeP lo m ti.size l p)
    | _, _, _ => none
  | .box T x => match E.tab T, (ρ x).flat with
    | some _, some l => if Nat.ble lo id && Nat.ble (id + 1) m0.boxes.length then some (.s (.ptr id 0), some fun m => some (setB m id l)) else none
    | _, _ => none
  | .alloc T => match E.tab T, E.zero T with
    | some (.sl _ _), _ => none
    | some _, some l => if Nat.ble lo id && Nat.ble (id + 1) m0.boxes.length then some (.s (.ptr id 0), some fun m => some (setB m id l)) else none
    | _, _ => none
  | _ => (valA E call m0 ρ o).map (·, none)

def memD (f : Option (Mem → Option Mem)) (m : Mem) : Option Mem :=
  match f with
  | none => some m
  | some f => f m

/-- Which operations of a region that draws turn memory, make a box, or read it. -/
def writes (o : Oper) : Bool :=
  match o.op with
  | .store _ _ _ => true
  | _ => false
def makes (o : Oper) : Bool :=
  match o.op with
  | .box _ _ | .alloc _ => true
  | _ => false
def reads (o : Oper) : Bool :=
  match o.op with
  | .load _ _ | .call _ | .indexAddr _ _ _ | .slice _ _ _ _ _ => true
  | _ => false

/-- A box that the region makes is spoken of only by what got it from an operand. -/
def fromOps (ids : List Nat) (S : St) (o : Oper) (x : A) : Bool :=
  makes o || ids.all fun id => x.all (C.noBox id) || o.op.operands.toList.any fun y => !(evalA S y).all (C.noBox id)

def stepD (E : Env) (call : CallT) (fb : Nat) (ids : List Nat) (m0 : Mem) (o : Oper) (S : St) : Option (Bool × St) :=
  match effD E call fb (fb + o.dst.getD 0) m0 (evalA S) o with
  | none => none
  | some (x, f) => if fromOps ids S o x then match memD f S.mem with
    | none => none
    | some m => some (guardA E call m0 (evalA S) o, putA o.dst x { S with mem := m })
    else none

/-- The boxes that a region makes. -/
def madeD (fb : Nat) (ops : Array Oper) : List Nat := ops.toList.filterMap fun o => if makes o then o.dst.map (fb + ·) else none
def eraseB (ids : List Nat) (m : Mem) : Mem := ⟨ids.foldr (fun id bs => bs.set id none) m.boxes, m.owns⟩

/-- Own slices in the boxes that are kept hold on to their rows; nil slices in them become owned ones? No: they stay. -/
def normS (fb : Nat) (a : Option (List Nat × List Nat × List Nat)) (S : St) : St :=
  match a with
  | none => S
  | some (t, b, o) => ⟨keepT t 0 S.tmps, ⟨S.mem.boxes.take fb ++ keepM b 0 (S.mem.boxes.drop fb), S.mem.owns.take fb ++ keepM o 0 (S.mem.owns.drop fb)⟩⟩

def annOf (l : List (FuncId × Nat × List Nat × List Nat × List Nat)) (f : FuncId) (id : Nat) : Option (List Nat × List Nat × List Nat) :=
  match l with
  | [] => none
  | (g, j, r) :: l => if Nat.beq g f && Nat.beq j id then some r else annOf l f id

def loopN {R : Type} (body : St → (Ex → St → Option R) → Option R) (norm : St → St) : Nat → St → (Ex → St → Option R) → Option R
  | 0, _, _ => none
  | n + 1, S, k => body (norm S) fun e S' => match e with
    | .normal => loopN body norm n S' k
    | e => k e S'

def waitsFor (oj : Oper) (i : Nat) : Bool := oj.after.any fun e => Region.binds .any e && e.on == i
def pairOK (i : Nat) (oi oj : Oper) : Bool :=
  !(writes oi && (reads oj || makes oj)) && (waitsFor oj i || !(writes oj && (reads oi || makes oi || writes oi)))
def pairsOK : Nat → List Oper → Bool
  | _, [] => true
  | i, oi :: r => r.all (pairOK i oi) && pairsOK (i + 1) r
def nodupB : List Nat → Bool
  | [] => true
  | x :: l => !(l.elem x) && nodupB l

/-- The lexical order stands for every order. -/
def drawSlow (ops : Array Oper) : Bool := Region.lexB .any ops && pairsOK 0 ops.toList

/-- What an operation looks at, where each one's temporary follows from its place. -/
def lookF (base : Nat) (o : Oper) : List Nat :=
  (o.op.operands.toList.filterMap fun | .tmp t => some t | _ => none) ++ (match o.guard with
    | some (g, _) => [base + g]
    | none => [])
def fastOp (base dl n k : Nat) (o : Oper) : Bool :=
  !(writes o) && (match o.dst with
    | none => true
    | some d => Nat.beq d (base + k) || (Nat.beq (k + 1) n && Nat.beq d dl && Nat.ble (dl + 1) base)) &&
  o.after.toList.all (fun e => !(Region.binds .any e) || Nat.ble (e.on + 1) k) &&
  (lookF base o).all (fun u => !(Nat.beq u dl) && (Nat.ble (u + 1) base || (Nat.ble (u + 1) (base + k) && o.after.toList.any fun e => Region.binds .any e && Nat.beq e.on (u - base)))) &&
  (match o.guard with
    | some (g, _) => Nat.ble (g + 1) k
    | none => true)
def fastFrom (base dl n : Nat) : Nat → List Oper → Bool
  | _, [] => true
  | k, o :: l => fastOp base dl n k o && fastFrom base dl n (k + 1) l
def fastB (l : List Oper) : Bool :=
  match l with
  | [] => false
  | o :: r => match o.dst with
    | none => false
    | some base =>
      let n := r.length + 1
      let dl := match (r.getLast?).bind (·.dst) with
        | some d => if Nat.ble (d + 1) base then d else base + n
        | none => base + n
      fastFrom base dl n 0 (o :: r)
def drawOK (ops : Array Oper) : Bool := match fastB ops.toList with
  | true => true
  | false => drawSlow ops

def freshD (fb : Nat) (ops : Array Oper) (S : St) : Bool :=
  nodupB (madeD fb ops) && ops.toList.all fun o => !(makes o) || (o.dst.isSome && S.all (C.noBox (fb + o.dst.getD 0)))

def ev (E : Env) (call : CallT) (f : FuncId) (fb : Nat) : Code → Nat → St → (Ex → St → Option A) → Option A
  | .skip, _, S, k => k .normal S
  | .region _ ops draw, _, S, k => match draw with
    | false => evG (stepA E call fb) ops ops.toList S (k .normal)
    | true => if drawOK ops then
        let ids := madeD fb ops
        let S := { S with mem := eraseB ids S.mem }
        if freshD fb ops S then evG (stepD E call fb ids S.mem) ops ops.toList S (k .normal) else none
      else none
  | .seq a b, cur, S, k => ev E call f fb a cur S fun e S' => match e with
    | .normal => ev E call f fb b cur S' k
    | e => k e S'
  | .cond c a b, cur, S, k => match evalA S c with
    | .s (.v (.bool r)) => match r with
      | true => ev E call f fb a cur S k
      | false => ev E call f fb b cur S k
    | _ => none
  | .block id c, _, S, k => ev E call f fb c id S fun e S' => match e with
    | .exit id' => if Nat.beq id' id then k .normal (normS fb (annOf E.ann f id) S') else k (.exit id') S'
    | e => k e S'
  | .loop c, cur, S, k => match E.sum f cur with
    | some g => g fb (normS fb (annOf E.ann f cur) S) k
    | none => loopN (ev E call f fb c cur) (normS fb (annOf E.ann f cur)) E.F S k
  | .exit id, _, S, k => k (.exit id) S
  | .ret, _, S, k => k .ret S
  | _, _, _, _ => none

/-- The loops of code, with the numbers that stand for them. -/
def loopsOf : Code → Nat → List (Nat × Code)
  | .seq a b, cur => loopsOf a cur ++ loopsOf b cur
  | .cond _ a b, cur => loopsOf a cur ++ loopsOf b cur
  | .block id c, _ => loopsOf c id
  | .loop c, cur => (cur, c) :: loopsOf c cur
  | _, _ => []

/-- What a function hands back. -/
def resA (E : Env) (S : St) : List ResultVar → Option (List A)
  | [] => some []
  | .tmp t :: r => (resA E S r).map (S.tmps.getD t .dead :: ·)
  | .cell a T :: r => match E.tab T, S.tmps.getD a .dead with
    | some ti, .s (.ptr b o) => match getB S.mem b with
      | some l => match readC o ti.size l with
        | some l => match valOf ti l, resA E S r with
          | some x, some r => some (x :: r)
          | _, _ => none
        | none => none
      | none => none
    | _, _ => none

/-- A struct's fields, each in its one form. -/
def canonG (E : Env) (rec : TypeId → List C → Option (List C)) : List (Nat × TypeId) → List C → Option (List C)
  | [], [] => some []
  | [], _ :: _ => none
  | (_, ft) :: fs, l => match E.tab ft with
    | some ti => match takeC deep ti.size l, dropC deep ti.size l with
      | some a, some b => match rec ft a, canonG E rec fs b with
        | some a, some b => some (a ++ b)
        | _, _ => none
      | _, _ => none
    | none => none

/-- A value in its one form, by its type. -/
def canonC (E : Env) : Nat → TypeId → List C → Option (List C)
  | 0, _, _ => none
  | k + 1, T, l => match E.tab T with
    | some .sc => (oneC l).map fun c => [c]
    | some (.sl _ t) => match l with
      | [.nils] => some [.list t [] []]
      | [.list t' x y] => if t' = t then some [.list t' x y] else none
      | _ => none
    | some (.ar _ _ _) => some l
    | some (.st _ fs) => match E.elt T with
      | some t => (decC t l).map fun x => [.el t x]
      | none => canonG E (canonC E k) fs l
    | none => none

def canonA (E : Env) (T : TypeId) : A → Option A
  | .s c => match canonC E 10 T [c] with
    | some [c] => if c.len then some (.s c) else none
    | _ => none
  | .g l => (canonC E 10 T l).map .g
  | _ => none

def canonL (E : Env) : List TypeId → List A → Option (List (Bool × List C))
  | [], [] => some []
  | T :: ts, a :: r => match canonA E T a, canonL E ts r with
    | some (.s c), some r => some ((false, [c]) :: r)
    | some (.g l), some r => some ((true, l) :: r)
    | _, _ => none
  | _, _ => none

def finC : C → Bool
  | .v _ | .el _ _ | .arr _ _ _ | .list _ _ _ | .nils | .fn _ [] => true
  | _ => false

def finA (E : Env) (fn : Func) (S : St) : Option A :=
  match resA E S fn.results.toList with
  | none => none
  | some l => match canonL E fn.resultTypes.toList (l.map (A.map (viewC S.mem))) with
    | some [(false, [c])] => if finC c then some (.s c) else none
    | some [(true, l)] => if l.all finC then some (.g l) else none
    | some l => if l.all (fun x => x.2.all finC) then some (.t l) else none
    | none => none

/-- A function's body, on arguments. -/
def bodyA (E : Env) (call : CallT) (f : FuncId) (fn : Func) (args : List A) (m : Mem) : Option A :=
  match fn.body with
  | none => none
  | some c => ev E call f m.boxes.length c 1000000
      ⟨args ++ List.replicate (fn.ntmps - args.length) .dead, ⟨m.boxes ++ List.replicate fn.ntmps none, (m.boxes.map fun _ => none) ++ List.replicate fn.ntmps none⟩⟩
      fun e S => match e with
        | .exit _ => none
        | _ => finA E fn S

/-- Sliced arrays as the callee reads them. -/
def snapC (m : Mem) : C → C
  | .bsl b o t n hi => match arrAt m b o t with
    | some (k, x) => match Nat.beq k n && Nat.ble n 1000 with
      | true => .list t (x.take hi) (x.drop hi)
      | false => .dead
    | none => .dead
  | c => c
def noBsl : C → Bool
  | .bsl _ _ _ _ _ => false
  | _ => true
/-- What says nothing of memory. -/
def flatC : C → Bool
  | .v _ | .el _ _ | .arr _ _ _ | .nils | .fn _ [] => true
  | _ => false

/-- A call. -/
def callA (E : Env) : Nat → CallT
  | 0 => fun _ _ _ => none
  | d + 1 =>
    let go : CallT := fun f args m => match E.gam f with
      | some g => g (fun f l => callA E d f l (memFor l m)) m args
      | none => match E.fd f with
        | some fn => (bodyA E (callA E d) f fn args m).map fun r => (true, r)
        | none => none
    fun f args m => match args.all (A.all noBsl) with
      | true => go f args m
      | false => match go f (args.map (A.map (snapC m))) (memFor (args.map (A.map (snapC m))) m) with
        | some (b, r) => match r.all flatC with
          | true => some (b, r)
          | false => none
        | none => none

/-- A function's own body, whatever is known of the function. -/
def runA (E : Env) (d : Nat) (f : FuncId) (args : List A) (m : Mem) : Option A :=
  match E.fd f with
  | some fn => bodyA E (callA E d) f fn args m
  | none => none

end Ev
end Go.Proofs.YtefjcgbidillhaaGreat
