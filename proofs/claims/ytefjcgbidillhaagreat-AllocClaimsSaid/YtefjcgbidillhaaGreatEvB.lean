/- The abstract evaluator: definitions alone. A value is a cell, a row of cells or a tuple; memory is the call's own boxes and owned slices; a slice that nobody writes is a list. -/
import Derived.Test.YtefjcgbidillhaaGreatEvA
namespace Go.Proofs.YtefjcgbidillhaaGreat
open Go
namespace Ev
set_option linter.unusedVariables false

/-- A cell, or some cells that lie side by side. -/
inductive C where
  | v (x : Value)
  | el (t : Ty) (x : t.D)
  | arr (t : Ty) (n : Nat) (l : List t.D)
  | list (t : Ty) (l bs : List t.D)
  | own (id : Nat)
  | pre (id : Nat) (n : Nat)
  | nils
  | ptr (b o : Nat)
  | elp (t : Ty) (x : t.D) (o : Nat)
  | arp (b o : Nat) (t : Ty) (n i : Nat) (o2 : Nat)
  | ownp (id : Nat) (i o : Nat)
  | bsl (b o : Nat) (t : Ty) (n hi : Nat)
  | fn (f : FuncId) (cap : List (Nat × Nat))
  | dead

inductive A where
  | s (c : C)
  | g (l : List C)
  | t (l : List (Bool × List C))
  | dead

structure Own where
  e : TypeId
  t : Ty
  l : List t.D

structure Mem where
  boxes : List (Option (List C))
  owns : List (Option Own)

structure St where
  tmps : List A
  mem : Mem

/-- What is known of a type. -/
inductive TI where
  | sc
  | st (size : Nat) (fields : List (Nat × TypeId))
  | sl (elem : TypeId) (t : Ty)
  | ar (n : Nat) (elem : TypeId) (t : Ty)

def TI.size : TI → Nat
  | .sc => 1
  | .st n _ => n
  | .sl _ _ => 1
  | .ar n _ t => n * t.size

def C.size : C → Nat
  | .el t _ => t.size
  | .arr t n _ => n * t.size
  | _ => 1

abbrev cs (s : Str) : C := .v (vs s)
abbrev ci (n : Int) : C := .v (vi n)
abbrev cb (b : Bool) : C := .v (vb b)

/-- A thing's parts. -/
def cel : (t : Ty) → t.D → List C
  | .str, s => [cs s]
  | .int, n => [ci n]
  | .bool, b => [cb b]
  | .byte, n => [.v (.int .u8 n)]
  | .key, k => [cs k.bin, cs k.item, cs k.lot, ci k.status]
  | .unit, u => [cs u.name, ci u.factor]
  | .item, x => [cs x.code, .arr .unit 4 x.units, ci x.volume, ci x.weight, cb x.lots, cb x.serial, cb x.check]
  | .lot, x => [cs x.item, cs x.code, ci x.expiry]
  | .zone, x => [cs x.code, cs x.site]
  | .bin, x => [cs x.code, cs x.zone, ci x.kind, ci x.aisle, ci x.place, ci x.volume, ci x.weight, cb x.frozen]
  | .quant, x => [.el .key x.key, ci x.qty, ci x.held]
  | .rule, x => [cs x.item, cs x.zone, ci x.rank]
  | .line, x => [cs x.item, ci x.asked, ci x.done, ci x.back, ci x.packed, ci x.out]
  | .notice, x => [cs x.code, cs x.site, .arr .line 8 x.lines, cb x.shut]
  | .order, x => [cs x.code, cs x.site, .arr .line 8 x.lines]
  | .claim, x => [cs x.order, ci x.line, .el .key x.key, ci x.qty, ci x.task]
  | .task, x => [ci x.number, ci x.kind, cs x.order, ci x.line, .el .key x.from, cs x.to, ci x.qty, cs x.who]
  | .parcel, x => [cs x.bin, cs x.order]
  | .sent, x => [cs x.order, cs x.item, cs x.lot, ci x.qty, ci x.back]
  | .counted, x => [.el .key x.key, ci x.qty]
  | .total, x => [cs x.item, cs x.lot, ci x.inn, ci x.out, ci x.back, ci x.fixed]
  | .take, x => [.el .key x.key, ci x.qty]
  | .entry, x => [.el .key x.key, cs x.site, ci x.day, ci x.opn, ci x.seat]

def isOne : Ty → Bool
  | .str | .int | .bool | .byte => true
  | _ => false

/-- Cells from offset 'o' on. -/
def dropC : Nat → Nat → List C → Option (List C)
  | 0, _, _ => none
  | k + 1, o, l =>
    match o with
    | 0 => some l
    | o + 1 =>
      match l with
      | [] => none
      | c :: r =>
        if Nat.ble c.size (o + 1) then dropC k (o + 1 - c.size) r
        else match c with
          | .el t x => dropC k (o + 1) (cel t x ++ r)
          | _ => none

/-- The first 'n' cells. -/
def takeC : Nat → Nat → List C → Option (List C)
  | 0, _, _ => none
  | k + 1, n, l =>
    match n with
    | 0 => some []
    | n + 1 =>
      match l with
      | [] => none
      | c :: r =>
        if Nat.ble c.size (n + 1) then (takeC k (n + 1 - c.size) r).map (c :: ·)
        else match c with
          | .el t x => takeC k (n + 1) (cel t x ++ r)
          | _ => none

def deep : Nat := 100

/-- 'n' cells at offset 'o'. -/
def readC (o n : Nat) (l : List C) : Option (List C) := (dropC deep o l).bind (takeC deep n)

/-- The cells with 'new' at offset 'o'. -/
def writeC (o n : Nat) (new l : List C) : Option (List C) :=
  if Nat.beq (new.map C.size).sum n then
    match takeC deep o l, dropC deep (o + n) l with
    | some a, some b => some (a ++ (new ++ b))
    | _, _ => none
  else none

/-- One cell as a value that stands alone. -/
def oneC : List C → Option C
  | [.el t x] => match cel t x with
    | [c] => some c
    | _ => none
  | [.arr _ _ _] => none
  | [c] => some c
  | _ => none

/-- A thing with one field set. -/
def setC : (t : Ty) → t.D → Nat → Value → Option t.D
  | .str, _, 0, .string s => some s
  | .int, _, 0, .int .i64 n => some n
  | .bool, _, 0, .bool b => some b
  | .line, x, 0, .string s => some { x with item := s }
  | .line, x, 1, .int .i64 n => some { x with asked := n }
  | .line, x, 2, .int .i64 n => some { x with done := n }
  | .line, x, 3, .int .i64 n => some { x with back := n }
  | .line, x, 4, .int .i64 n => some { x with packed := n }
  | .line, x, 5, .int .i64 n => some { x with out := n }
  | .unit, x, 0, .string s => some { x with name := s }
  | .unit, x, 1, .int .i64 n => some { x with factor := n }
  | _, _, _, _ => none

/-! A thing out of its cells. -/
def dec_str : List C → Option (Ty.D .str)
  | [.v (.string s)] => some s
  | _ => none
def dec_int : List C → Option (Ty.D .int)
  | [.v (.int .i64 n)] => some n
  | _ => none
def dec_bool : List C → Option (Ty.D .bool)
  | [.v (.bool b)] => some b
  | _ => none
def dec_key : List C → Option (Ty.D .key)
  | [.el .key k] => some k
  | [.v (.string a), .v (.string b), .v (.string c), .v (.int .i64 d)] => some ⟨a, b, c, d⟩
  | _ => none
def dec_unit : List C → Option (Ty.D .unit)
  | [.el .unit k] => some k
  | [.v (.string a), .v (.int .i64 d)] => some ⟨a, d⟩
  | _ => none
def dec_item : List C → Option (Ty.D .item)
  | [.el .item k] => some k
  | [.v (.string a), .arr .unit 4 l, .v (.int .i64 b), .v (.int .i64 c), .v (.bool d), .v (.bool e), .v (.bool f)] => some ⟨a, l, b, c, d, e, f⟩
  | _ => none
def dec_lot : List C → Option (Ty.D .lot)
  | [.el .lot k] => some k
  | [.v (.string a), .v (.string b), .v (.int .i64 d)] => some ⟨a, b, d⟩
  | _ => none
def dec_zone : List C → Option (Ty.D .zone)
  | [.el .zone k] => some k
  | [.v (.string a), .v (.string b)] => some ⟨a, b⟩
  | _ => none
def dec_bin : List C → Option (Ty.D .bin)
  | [.el .bin k] => some k
  | [.v (.string a), .v (.string b), .v (.int .i64 c), .v (.int .i64 d), .v (.int .i64 e), .v (.int .i64 f), .v (.int .i64 g), .v (.bool h)] => some ⟨a, b, c, d, e, f, g, h⟩
  | _ => none
def dec_quant : List C → Option (Ty.D .quant)
  | [.el .quant k] => some k
  | [.el .key k, .v (.int .i64 a), .v (.int .i64 b)] => some ⟨k, a, b⟩
  | [.v (.string a), .v (.string b), .v (.string c), .v (.int .i64 d), .v (.int .i64 e), .v (.int .i64 f)] => some ⟨⟨a, b, c, d⟩, e, f⟩
  | _ => none
def dec_rule : List C → Option (Ty.D .rule)
  | [.el .rule k] => some k
  | [.v (.string a), .v (.string b), .v (.int .i64 d)] => some ⟨a, b, d⟩
  | _ => none
def dec_line : List C → Option (Ty.D .line)
  | [.el .line k] => some k
  | [.v (.string a), .v (.int .i64 b), .v (.int .i64 c), .v (.int .i64 d), .v (.int .i64 e), .v (.int .i64 f)] => some ⟨a, b, c, d, e, f⟩
  | _ => none
def dec_notice : List C → Option (Ty.D .notice)
  | [.el .notice k] => some k
  | [.v (.string a), .v (.string b), .arr .line 8 l, .v (.bool c)] => some ⟨a, b, l, c⟩
  | _ => none
def dec_order : List C → Option (Ty.D .order)
  | [.el .order k] => some k
  | [.v (.string a), .v (.string b), .arr .line 8 l] => some ⟨a, b, l⟩
  | _ => none
def dec_claim : List C → Option (Ty.D .claim)
  | [.el .claim k] => some k
  | [.v (.string a), .v (.int .i64 b), .el .key k, .v (.int .i64 c), .v (.int .i64 d)] => some ⟨a, b, k, c, d⟩
  | [.v (.string a), .v (.int .i64 b), .v (.string e), .v (.string f), .v (.string g), .v (.int .i64 h), .v (.int .i64 c), .v (.int .i64 d)] => some ⟨a, b, ⟨e, f, g, h⟩, c, d⟩
  | _ => none
def dec_task : List C → Option (Ty.D .task)
  | [.el .task k] => some k
  | [.v (.int .i64 a), .v (.int .i64 b), .v (.string c), .v (.int .i64 d), .el .key k, .v (.string e), .v (.int .i64 f), .v (.string g)] => some ⟨a, b, c, d, k, e, f, g⟩
  | _ => none
def dec_parcel : List C → Option (Ty.D .parcel)
  | [.el .parcel k] => some k
  | [.v (.string a), .v (.string b)] => some ⟨a, b⟩
  | _ => none
def dec_sent : List C → Option (Ty.D .sent)
  | [.el .sent k] => some k
  | [.v (.string a), .v (.string b), .v (.string c), .v (.int .i64 d), .v (.int .i64 e)] => some ⟨a, b, c, d, e⟩
  | _ => none
def dec_counted : List C → Option (Ty.D .counted)
  | [.el .counted k] => some k
  | [.el .key k, .v (.int .i64 a)] => some ⟨k, a⟩
  | _ => none
def dec_total : List C → Option (Ty.D .total)
  | [.el .total k] => some k
  | [.v (.string a), .v (.string b), .v (.int .i64 c), .v (.int .i64 d), .v (.int .i64 e), .v (.int .i64 f)] => some ⟨a, b, c, d, e, f⟩
  | _ => none
def dec_take : List C → Option (Ty.D .take)
  | [.el .take k] => some k
  | [.el .key k, .v (.int .i64 a)] => some ⟨k, a⟩
  | _ => none
def dec_entry : List C → Option (Ty.D .entry)
  | [.el .entry k] => some k
  | [.el .key k, .v (.string a), .v (.int .i64 b), .v (.int .i64 c), .v (.int .i64 d)] => some ⟨k, a, b, c, d⟩
  | _ => none
/-- A thing out of its cells. -/
def decC : (t : Ty) → List C → Option t.D
  | .str, l => dec_str l
  | .int, l => dec_int l
  | .bool, l => dec_bool l
  | .key, l => dec_key l
  | .unit, l => dec_unit l
  | .item, l => dec_item l
  | .lot, l => dec_lot l
  | .zone, l => dec_zone l
  | .bin, l => dec_bin l
  | .quant, l => dec_quant l
  | .rule, l => dec_rule l
  | .line, l => dec_line l
  | .notice, l => dec_notice l
  | .order, l => dec_order l
  | .claim, l => dec_claim l
  | .task, l => dec_task l
  | .parcel, l => dec_parcel l
  | .sent, l => dec_sent l
  | .counted, l => dec_counted l
  | .total, l => dec_total l
  | .take, l => dec_take l
  | .entry, l => dec_entry l
  | _, _ => none

end Ev
end Go.Proofs.YtefjcgbidillhaaGreat
